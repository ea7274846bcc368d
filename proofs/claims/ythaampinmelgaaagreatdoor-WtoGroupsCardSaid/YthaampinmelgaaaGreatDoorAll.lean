/- Package wto: the iterator over all elements, with the heads around them. -/
import Derived.Test.YthaampinmelgaaaGreatDoorRangeG
import Derived.Test.YthaampinmelgaaaGreatDoorProg
import Derived.Test.YthaampinmelgaaaGreatDoorEls
import Derived.Test.YthaampinmelgaaaGreatDoorBack
import Derived.Test.YthaampinmelgaaaGreatDoorFront
import Derived.ArgAppend
import Derived.Test.YthaampinmelgaaaGreatDoorWtoL
namespace Go.Proofs.YthaampinmelgaaaGreatDoor
open Go.RowKit Go.Shelf

attribute [local go_sem] Oper.semAt_some

mutual
def El.walk : El → List Int → List (El × List Int)
  | .mk p c b, hs => (.mk p c b, if c then hs ++ [p] else hs) :: walkL b (if c then hs ++ [p] else hs)
def walkL : List El → List Int → List (El × List Int)
  | [], _ => []
  | x :: l, hs => x.walk hs ++ walkL l hs
end
theorem walkL_nil (hs : List Int) : walkL [] hs = [] := by simp [walkL]
theorem walkL_cons (x : El) (l : List El) (hs : List Int) : walkL (x :: l) hs = x.walk hs ++ walkL l hs := by simp [walkL]
theorem El.walk_mk (p : Int) (c : Bool) (b : List El) (hs : List Int) : (El.mk p c b).walk hs = (.mk p c b, if c then hs ++ [p] else hs) :: walkL b (if c then hs ++ [p] else hs) := by simp [El.walk]
theorem walkL_append : ∀ (a b : List El) (hs : List Int), walkL (a ++ b) hs = walkL a hs ++ walkL b hs
  | [], b, hs => by simp [walkL_nil]
  | x :: a, b, hs => by simp [walkL_cons, walkL_append a b hs]

/-- What a round is handed. -/
structure Yd where
  x : El
  hs : List Int
  bv : Value
  hv : Value
def Yd.key (y : Yd) : El × List Int := (y.x, y.hs)
def Yd.encs (y : Yd) : Array Value := #[.agg #[.int .i64 y.x.p, .bool y.x.c, y.bv], y.hv]

/-- A slice of heads, in blocks of O. -/
def HeadsAt (O : Nat → Prop) (w : World) (v : Value) (hs : List Int) : Prop :=
  ∃ A c, v = .slice A hs.length c ∧ hs.length ≤ c ∧ c ≤ maxLen ∧ (hs = [] → A = none ∧ c = 0) ∧ ∀ (j : Nat) (x : Int), hs[j]? = some x → ∃ ad, A = some ad ∧ O ad.block ∧ w.cell? (ad.add j) = some (.int .i64 x) ∧ Typed w ad.block 3
theorem HeadsAt.nil (O : Nat → Prop) (w : World) : HeadsAt O w (.slice none 0 0) [] := ⟨none, 0, rfl, Nat.le_refl _, by simp [maxLen], fun _ => ⟨rfl, rfl⟩, fun j x hx => by simp at hx⟩
theorem HeadsAt.keep {O O' : Nat → Prop} {w w' : World} {v : Value} {hs : List Int} (h : HeadsAt O w v hs) (hO : ∀ b, O b → O' b) (hk : ∀ b, O b → w'.heap[b]? = w.heap[b]?) : HeadsAt O' w' v hs := by
  obtain ⟨A, c, h1, h2, h3, h0, h4⟩ := h
  refine ⟨A, c, h1, h2, h3, h0, fun j x hx => ?_⟩
  obtain ⟨ad, h5, h6, h7, h8⟩ := h4 j x hx
  exact ⟨ad, h5, hO _ h6, (World.cell?_of_block (by rw [block_add]; exact hk _ h6)).trans h7, h8.same (hk _ h6)⟩
def Nx (P : Nat → Prop) (G : List (El × List Int)) (pre : List Yd) (y : Yd) (O : Nat → Prop) (W : World) : Prop :=
  (∃ post, G = pre.map Yd.key ++ y.key :: post) ∧ Els P W y.bv y.x.body ∧ HeadsAt O W y.hv y.hs ∧ InI64 y.x.p ∧ (∀ b, P b → O b)
def Kept (O : Nat → Prop) (W W' : World) : Prop := (∀ b, O b → W'.heap[b]? = W.heap[b]?) ∧ W.heap.size ≤ W'.heap.size
theorem Kept.refl (O : Nat → Prop) (W : World) : Kept O W W := ⟨fun _ _ => rfl, Nat.le_refl _⟩
theorem Kept.trans {O O' : Nat → Prop} {A B C : World} (h : Kept O A B) (k : Kept O' B C) (hO : ∀ b, O b → O' b) : Kept O A C := ⟨fun b hb => (k.1 b (hO b hb)).trans (h.1 b hb), Nat.le_trans h.2 k.2⟩
theorem Kept.cell {O : Nat → Prop} {A B : World} (h : Kept O A B) {p : Addr} (hp : O p.block) : B.cell? p = A.cell? p := World.cell?_of_block (h.1 _ hp)
theorem AbG.drop {β : Type} {J : β → (Nat → Prop) → World → Prop} (h : AbG J) {s : β} {O O' : Nat → Prop} {W : World} (hs : J s O W) (hO : ∀ b, O' b → O b) (hl : ∀ b, O' b → b < W.heap.size) : J s O' W :=
  h s O O' W W hs ⟨rfl, rfl, rfl, Nat.le_refl _, fun _ _ _ => rfl⟩ (fun b hb => ⟨.inl (hO b hb), hl b hb⟩)

/-- One element more in the walk's books. -/
theorem walk_split {l : List El} {m : Nat} {p : Int} {c : Bool} {b : List El} (hx : l[m]? = some (.mk p c b)) (hs : List Int) :
    walkL (l.take (m + 1)) hs = walkL (l.take m) hs ++ ((El.mk p c b, if c then hs ++ [p] else hs) :: walkL b (if c then hs ++ [p] else hs)) ∧ walkL l hs = walkL (l.take (m + 1)) hs ++ walkL (l.drop (m + 1)) hs := by
  constructor
  · rw [List.take_add_one, hx, walkL_append]
    simp [walkL_cons, walkL_nil, El.walk_mk]
  · rw [← walkL_append, List.take_append_drop]
theorem pts_size {l : List El} {m : Nat} {p : Int} {c : Bool} {b : List El} (hx : l[m]? = some (.mk p c b)) : (ptsL b).length + 1 ≤ (ptsL l).length := by
  have h : l = l.take m ++ El.mk p c b :: l.drop (m + 1) := by
    obtain ⟨hm, he⟩ := List.getElem?_eq_some_iff.1 hx
    rw [← he, ← List.drop_eq_getElem_cons hm, List.take_append_drop]
  rw [h, ptsL_append, ptsL_cons, El.pts_mk]
  simp
  omega

theorem clip_any (A : Option Addr) (n c : Nat) (w : World) (hn : n ≤ c) (hc : c ≤ maxLen) :
    Calls Tryz.prog 65 #[.slice A n c] w fun en w' => en = .returned (.slice A n n) ∧ w = w' := by
  have hc' : c ≤ 9223372036854775807 := by unfold maxLen at hc; omega
  go_enter Tryz.func65, Tryz.ntmps65
  go_wp2
  go_ret
  exact ⟨rfl, rfl⟩

set_option maxRecDepth 100000 in
set_option maxHeartbeats 4000000 in
theorem walk_any {P : Nat → Prop} {w0 : World} {v : Value} {l : List El} (h : Els P w0 v l) (lb : Nat) (J : List Yd → (Nat → Prop) → World → Prop) (Jx : List Yd → World → Prop) (hJ : AbG J) (G : List (El × List Int))
    (hY : ∀ pre y O W1, J pre O W1 → Nx P G pre y O W1 → ∀ m, YieldAt Fence.wide m Tryz.prog lb y.encs W1 fun e W' =>
      (e = .returned (.bool true) ∧ J (pre ++ [y]) O W' ∧ (∀ b, O b → W'.heap[b]? = W1.heap[b]?) ∧ W1.heap.size ≤ W'.heap.size) ∨ (e = .returned (.bool false) ∧ Jx (pre ++ [y]) W')) :
    ∀ (n : Nat) (O : Nat → Prop) (hv : Value) (hs : List Int) (pre : List Yd) (post : List (El × List Int)) (W : World), (∀ b, P b → O b) → (∀ b, O b → b < W.heap.size) → (∀ p : Addr, P p.block → W.cell? p = w0.cell? p) → HeadsAt O W hv hs →
      hs.length + (ptsL l).length ≤ 1000000 → G = pre.map Yd.key ++ (walkL l hs ++ post) → J pre O W →
      CallsIn Fence.wide n Tryz.prog 50 #[v, hv, .func (.yield lb) #[] #[]] W fun e W' =>
        (e = .returned (.bool true) ∧ ∃ ys, ys.map Yd.key = walkL l hs ∧ J (pre ++ ys) O W' ∧ Kept O W W') ∨ (e = .returned (.bool false) ∧ ∃ pre', Jx pre' W') := by
  induction h with
  | mk A c l us hlc hm hz hc hr ih =>
    intro n O hv hs pre post W hPO hO hW hH hlen hG hJ0
    have HC := Lib.hid hc
    have HIH := Lib.hid ih
    have HR := Lib.hid hr
    have HW := Lib.hid hW
    have HPO := Lib.hid hPO
    have HO := Lib.hid hO
    have HH := Lib.hid hH
    have HG := Lib.hid hG
    have HJ0 := Lib.hid hJ0
    have HY := Lib.hid hY
    have hl63 : l.length ≤ 9223372036854775807 := by unfold maxLen at hm; omega
    obtain ⟨Ah, ch, rfl, hch1, hch2, -, hHad⟩ := hH
    have HAD := Lib.hid hHad
    clear hHad
    clear hc hr ih hW hm hPO hO hG hJ0 hY
    refine callsIn_of_wp Tryz.func50 rfl trivial (wpIn_wide.2 ?_) rfl
    simp only [Tryz.ntmps50, List.size_toArray, List.length_cons, List.length_nil, Nat.reduceAdd, Nat.reduceSub, Array.replicate_succ, Array.replicate_zero, List.push_toArray, List.append_toArray, List.nil_append, List.cons_append]
    go_wp2
    go_loopw [12] (fun i wr => ∃ (m : Nat) (ys : List Yd), m ≤ l.length ∧ i = .int .i64 m ∧ ys.map Yd.key = walkL (l.take m) hs ∧ J (pre ++ ys) O wr ∧ Kept O W wr) (fun i _ => l.length - (intOf i).toNat)
    case atStart => exact ⟨0, [], Nat.zero_le _, rfl, by simp [walkL_nil], by simpa using HJ0.out, Kept.refl _ _⟩
    case round =>
      obtain ⟨m, ys, hm, rfl, hys, hJw, hkw⟩ := hrel
      by_cases hlt : m < l.length
      · obtain ⟨x, hx⟩ : ∃ x, l[m]? = some x := ⟨_, List.getElem?_eq_getElem hlt⟩
        obtain ⟨ad, hA, hPad, e0, e1, e2, hI⟩ := HC.out m x hx
        subst hA
        have hk : ∀ i, wr.cell? (ad.add i) = w0.cell? (ad.add i) := fun i => (hkw.cell (by rw [block_add]; exact HPO.out _ hPad)).trans (HW.out _ (by rw [block_add]; exact hPad))
        have c0 := (hk (m * 3)).trans e0
        have c1 := (hk (m * 3 + 1)).trans e1
        have c2 := (hk (m * 3 + 2)).trans e2
        rw [← add_add', addrOne] at c1
        rw [← add_add', addrTwo] at c2
        have hih := HIH.out m x hx
        have hels := HR.out m x hx
        obtain ⟨Au, cu, hu, -⟩ := hels.shape
        rw [hu] at c2 hih hels
        clear hu e0 e1 e2 hk
        obtain ⟨p, c, b⟩ := x
        simp only [El.p, El.c, El.body] at c0 c1 c2 hih hels hI
        have hsz := pts_size hx
        have hsp := walk_split hx hs
        have HSP := Lib.hid hsp
        have HIE := Lib.hid hih
        have HEL := Lib.hid hels
        have HYS := Lib.hid hys
        have HJW := Lib.hid hJw
        have HKW := Lib.hid hkw
        have HI := Lib.hid hI
        have hlt1 : (m : Int) < (l.length : Int) := by omega
        clear hsp hih hels hys hJw hkw hI hPad hx
        cases c with
        | false =>
          go_upto_region 7 with (fail)
          obtain ⟨W1, hW1⟩ : ∃ W1, W1 = wr.alloc (.cells #[.int .i64 p, .bool false, .slice Au b.length cu] 36) := ⟨_, rfl⟩
          rw [← hW1]
          have hb8 : Blk W1 wr.heap.size 36 [.int .i64 p, .bool false, .slice Au b.length cu] := by rw [hW1]; exact Blk.newAt wr 36 #[.int .i64 p, .bool false, .slice Au b.length cu] rfl
          have hgr : wr.grownBy W1 none := by rw [hW1]; exact World.grownBy_alloc _ _ _
          clear hW1 c0 c1 c2
          have hH1 : ∀ O1 : Nat → Prop, (O1 = fun b => O b ∨ (wr.heap.size ≤ b ∧ b < W1.heap.size)) → HeadsAt O1 W1 (.slice Ah hs.length ch) hs := fun O1 hO1 => HH.out.keep (fun b hb => by rw [hO1]; exact .inl hb)
            (fun b hb => (hgr.block b (by have := HO.out b hb; have := HKW.out.2; omega) (fun e => by cases e)).trans (HKW.out.1 b hb))
          have hb8c := hb8.cellAt (i := 2) rfl
          have q0 := hb8.cellAt (i := 0) rfl
          have q1 := hb8.cellAt (i := 1) rfl
          obtain ⟨O1, hO1⟩ : ∃ O1 : Nat → Prop, O1 = fun b => O b ∨ (wr.heap.size ≤ b ∧ b < W1.heap.size) := ⟨_, rfl⟩
          have hO1l : ∀ b, O b → O1 b := fun b hb => by rw [hO1]; exact .inl hb
          have hO1s : ∀ b, O1 b → (O b ∨ wr.heap.size ≤ b) ∧ b < W1.heap.size := fun b hb => by
            rw [hO1] at hb
            rcases hb with hb | hb
            · exact ⟨.inl hb, by have := HO.out b hb; have := HKW.out.2; have := hgr.size; omega⟩
            · exact ⟨.inr hb.1, hb.2⟩
          have hO8 : O1 wr.heap.size := by rw [hO1]; exact .inr ⟨Nat.le_refl _, hb8.lt⟩
          have hJ1 : J (pre ++ ys) O1 W1 := hJ _ _ _ _ _ HJW.out hgr hO1s
          have hkk : Kept O wr W1 := ⟨fun b hb => hgr.block b (by have := HO.out b hb; have := HKW.out.2; omega) (fun e => by cases e), hgr.size⟩
          have hE1 : Els P W1 (.slice Au b.length cu) b := HEL.out.keep (fun q hq => (hkk.cell (HPO.out _ hq)).trans ((HKW.out.cell (HPO.out _ hq)).trans (HW.out q hq)))
          have hnx : Nx P G (pre ++ ys) ⟨.mk p false b, hs, .slice Au b.length cu, .slice Ah hs.length ch⟩ O1 W1 := ⟨⟨walkL b (hs) ++ (walkL (l.drop (m + 1)) hs ++ post), by
            rw [HG.out, HSP.out.2, HSP.out.1, List.map_append, HYS.out]
            simp [Yd.key]⟩, hE1, hH1 O1 hO1, HI.out, fun b hb => hO1l b (HPO.out b hb)⟩
          obtain ⟨fn, tmps, assign, body, hy, hR⟩ := HY.out _ _ _ _ hJ1 hnx (n - 1)
          simp only [Yd.encs, El.p, El.c] at hy
          have HH1 := Lib.hid (hH1 O1 hO1)
          have HHB := Lib.hid hb8
          have HKK := Lib.hid hkk
          have HO1S := Lib.hid hO1s
          have HO1L := Lib.hid hO1l
          clear hE1 hnx hJ1 hgr hH1 hkk hO1s hO1l hO1
          refine (wpIn_wide (n := n)).1 ?_
          gi_wp2
          refine ⟨fun h => (by cases h), hR.mono ?_⟩
          clear hR hy
          rintro e W3 (⟨rfl, hJ3, hk3, hs3⟩ | ⟨rfl, hJx3⟩)
          · have hcell2 : W3.cell? ⟨wr.heap.size, 2, none⟩ = some (.slice Au b.length cu) := (World.cell?_of_block (hk3 _ hO8)).trans hb8c
            have hk03 : Kept O W W3 := (HKW.out.trans (O' := O) HKK.out (fun _ h => h)).trans (O' := O1) ⟨hk3, hs3⟩ HO1L.out
            have hrec := HIE.out (n - 1) O1 (.slice Ah hs.length ch) (hs) (pre ++ ys ++ [⟨.mk p false b, hs, .slice Au b.length cu, .slice Ah hs.length ch⟩]) (walkL (l.drop (m + 1)) hs ++ post) W3 (fun b hb => HO1L.out b (HPO.out b hb)) (fun b hb => by have := (HO1S.out b hb).2; omega)
              (fun q hq => (hk03.cell (HPO.out _ hq)).trans (HW.out q hq)) (HH1.out.keep (fun _ h => h) hk3) (by (try simp only [List.length_append, List.length_singleton]); omega) (by
                rw [HG.out, HSP.out.2, HSP.out.1, List.map_append, List.map_append, HYS.out]
                simp [Yd.key]) hJ3
            have HREC := Lib.hid hrec
            have HK03 := Lib.hid hk03
            clear hb8c q0 q1 hrec hk03 hk3 hJ3
            gi_wp2
            refine ⟨trivial, fun h => (by cases h), HREC.out.mono ?_⟩
            rintro e W4 (⟨rfl, ys4, hys4, hJ4, hk4⟩ | ⟨rfl, pre', hx4⟩)
            · have hk04 : Kept O W W4 := HK03.out.trans hk4 HO1L.out
              have hJd : J (pre ++ ys ++ [⟨.mk p false b, hs, .slice Au b.length cu, .slice Ah hs.length ch⟩] ++ ys4) O W4 := hJ.drop hJ4 HO1L.out (fun b hb => by have := HO.out b hb; have := hk04.2; omega)
              have HYS4 := Lib.hid hys4
              have HJD := Lib.hid hJd
              have HK04 := Lib.hid hk04
              clear hk04 hJd hys4 hJ4 hk4
              gi_wp2
              go_wp2
              go_roundw
              case rel => exact ⟨m + 1, ys ++ ⟨.mk p false b, hs, .slice Au b.length cu, .slice Ah hs.length ch⟩ :: ys4, by omega, by go_num, by rw [HSP.out.1, List.map_append, List.map_cons, HYS.out, HYS4.out]; simp [Yd.key], by simpa using HJD.out, HK04.out⟩
              case measure => simp [intOf]; omega
            · gi_wp2
              go_wp2
              go_ret
              exact .inr ⟨rfl, pre', hx4⟩
          · gi_wp2
            refine ⟨trivial, ?_⟩
            gi_wp2
            go_wp2
            go_ret
            exact .inr ⟨rfl, _, hJx3⟩
        | true =>
          go_upto_region 6 with (fail)
          have hb0 : Blk (wr.alloc (.cells #[.int .i64 p, .bool true, .slice Au b.length cu] 36)).drew wr.heap.size 36 [.int .i64 p, .bool true, .slice Au b.length cu] := Blk.newAt wr 36 #[.int .i64 p, .bool true, .slice Au b.length cu] rfl
          have hgz : wr.grownBy (wr.alloc (.cells #[.int .i64 p, .bool true, .slice Au b.length cu] 36)).drew none := by
            have := World.grownBy_alloc wr (.cells #[.int .i64 p, .bool true, .slice Au b.length cu] 36) none
            exact ⟨this.os, this.tape, this.output, this.size, this.block⟩
          have hzs : (wr.alloc (.cells #[.int .i64 p, .bool true, .slice Au b.length cu] 36)).drew.heap.size = wr.heap.size + 1 := by show (wr.alloc _).heap.size = _; rw [World.size_alloc]
          have hHeld := And.intro (hb0.cellAt (i := 0) rfl) trivial
          clear c0 c1 c2
          refine wp_region_front (S := fun w' => w'.cell? ⟨wr.heap.size, 0, none⟩ = some (.int .i64 p) ∧ True) 0 5 (by kernel_rfl) (by kernel_rfl) (by decide) rfl (by kernel_rfl) (by kernel_rfl) (fun _ _ _ h => h) (.inl ⟨by rfl, fun w' => by rfl⟩) ?_
          simp only [Act.put, List.setIfInBounds_toArray, List.set_cons_zero, List.set_cons_succ]
          revert hb0 hgz hzs hHeld
          generalize (wr.alloc (.cells #[.int .i64 p, .bool true, .slice Au b.length cu] 36)).drew = wz
          intro hb0 hgz hzs hHeld
          have HBZ := Lib.hid hb0
          have HGZ := Lib.hid hgz
          clear hb0 hgz
          have hal : (wz.alloc (.cells #[.int .i64 p] 3)).cell? ⟨wr.heap.size, 0, none⟩ = some (.int .i64 p) ∧ True := ⟨(HBZ.out.alloc _).cellAt (i := 0) rfl, trivial⟩
          obtain ⟨ii, hi, hz0, hz1, hz2⟩ := info_parts info_int
          refine Front.take 2 (v := ?_) rfl (by decide) (by kernel_rfl) (by kernel_rfl) (fun _ _ _ h => h) rfl hHeld ?_ ?_
          case refine_2 => intro w' hSw; obtain ⟨q1, q2⟩ := hSw; go_simp <;> with_reducible rfl
          simp only [Act.put, List.setIfInBounds_toArray, List.set_cons_zero, List.set_cons_succ]
          refine Front.take 3 (v := ?_) rfl (by decide) (by kernel_rfl) (by kernel_rfl) (fun _ _ _ h => h) rfl hHeld ?_ ?_
          case refine_2 => intro w' hSw; obtain ⟨q1, q2⟩ := hSw; go_simp <;> with_reducible rfl
          simp only [Act.put, List.setIfInBounds_toArray, List.set_cons_zero, List.set_cons_succ]
          refine Front.two (i := 1) (j := 4) (by kernel_rfl) (by decide) (by decide) ?_ ?_
          · refine FrontStep.of rfl (fun K hK => ?_)
            go_simp
            refine (clip_any Ah hs.length ch wz hch1 hch2).mono ?_
            rintro en w5 ⟨rfl, rfl⟩
            refine hK _ _ hHeld ?_
            clear K hK
            refine Front.one (i := 4) (by kernel_rfl) (by decide) ?_
            refine FrontStep.of rfl (fun K hK => ?_)
            go_simp
            refine hK _ _ hal ?_
            clear K hK hal hHeld
            refine Front.done (by kernel_rfl) ?_
            simp only [List.drop_succ_cons, List.drop_zero]
            have hnb := Blk.newAt wz 3 #[.int .i64 p] hzs
            refine wpList_append_grows _ rfl (.tmp 20) (.tmp 23) 31 rfl 3 ii (.int .i64 0) 1 8 Tryz.underlying31 hi hz0 hz1 hz2 rfl (by decide) Ah hs.length hs.length (hs.map (Value.int .i64)) rfl ?d1a (by simp) ?d1b ⟨wr.heap.size + 1, 0, none⟩ 1 1 [.int .i64 p] rfl rfl (fun j u' hj => by rw [add_none]; exact hnb.cellAt hj) (fun u' hu => by simp at hu; subst hu; rfl) (by omega) (by unfold maxLen; omega) (by omega) ?_
            case d1a =>
              intro e
              have h0 : hs.length = 0 := by
                cases hs with
                | nil => rfl
                | cons y ys => obtain ⟨ad, h1, -⟩ := HAD.out 0 y rfl; rw [e] at h1; cases h1
              exact ⟨h0, h0⟩
            case d1b =>
              intro b' e j u hj
              rw [List.getElem?_map, Option.map_eq_some_iff] at hj
              obtain ⟨y, hy, rfl⟩ := hj
              obtain ⟨ad', h1, h2, h3, -⟩ := HAD.out j y hy
              rw [e] at h1
              cases h1
              have h4 := HO.out _ h2
              have h5 := HKW.out.2
              have h6 : (wz.alloc (.cells #[.int .i64 p] 3)).heap[b'.block]? = W.heap[b'.block]? := (Below.heap_alloc wz _ _ (by omega)).trans ((HGZ.out.block _ (by omega) (fun e => by cases e)).trans (HKW.out.1 _ h2))
              exact (World.cell?_of_block (by rw [block_add]; exact h6)).trans h3
            intro v1 W1 hown hgw
            obtain ⟨g1, cg1, rfl⟩ := ownsRow_succ hown
            have hgr : wr.grownBy W1 none := ⟨hgw.os.trans HGZ.out.os, hgw.tape.trans HGZ.out.tape, hgw.output.trans HGZ.out.output, by have := hgw.size; simp at this; omega, fun k hk hr => (hgw.block k (by simp; omega) hr).trans ((Below.heap_alloc _ _ _ (by omega)).trans (HGZ.out.block k hk hr))⟩
            have hb8 : Blk W1 wr.heap.size 36 [.int .i64 p, .bool true, .slice Au b.length cu] := (HBZ.out.alloc _).same (hgw.block _ (by simp; omega) (fun e => by cases e))
            have hH1 : ∀ O1 : Nat → Prop, (O1 = fun b => O b ∨ (wr.heap.size ≤ b ∧ b < W1.heap.size)) → HeadsAt O1 W1 (.slice (some ⟨g1, 0, none⟩) (hs.length + 1) cg1) (hs ++ [p]) := fun O1 hO1 => by
              obtain ⟨h1, h2⟩ := hown
              rcases h2 with ⟨h2, -⟩ | ⟨g, cap, cur, h2, hb, hh, hc1, hc2, hc3, hc4⟩
              · cases h2
              · cases h2
                refine ⟨_, _, by rw [List.length_append, List.length_singleton], by simpa using hc1, hc2, fun e => by simp at e, fun j x hx => ⟨_, rfl, ?_, ?_, ⟨_, _, hh⟩⟩⟩
                · rw [hO1]; have := lt_of_block hh; simp at hb; exact .inr ⟨by show wr.heap.size ≤ g1; omega, this⟩
                · exact World.ownsRow.cells (g := g1) ⟨h1, .inr ⟨g1, cg1, cur, rfl, hb, hh, hc1, hc2, hc3, hc4⟩⟩ rfl j _ (by
                    have : hs.map (Value.int .i64) ++ [.int .i64 p] = (hs ++ [p]).map (Value.int .i64) := by simp
                    rw [this, List.getElem?_map, hx]; rfl)
            clear hown hgw hnb
            go_upto_region 7 with (fail)
            have hb8c := hb8.cellAt (i := 2) rfl
            have q0 := hb8.cellAt (i := 0) rfl
            have q1 := hb8.cellAt (i := 1) rfl
            obtain ⟨O1, hO1⟩ : ∃ O1 : Nat → Prop, O1 = fun b => O b ∨ (wr.heap.size ≤ b ∧ b < W1.heap.size) := ⟨_, rfl⟩
            have hO1l : ∀ b, O b → O1 b := fun b hb => by rw [hO1]; exact .inl hb
            have hO1s : ∀ b, O1 b → (O b ∨ wr.heap.size ≤ b) ∧ b < W1.heap.size := fun b hb => by
              rw [hO1] at hb
              rcases hb with hb | hb
              · exact ⟨.inl hb, by have := HO.out b hb; have := HKW.out.2; have := hgr.size; omega⟩
              · exact ⟨.inr hb.1, hb.2⟩
            have hO8 : O1 wr.heap.size := by rw [hO1]; exact .inr ⟨Nat.le_refl _, hb8.lt⟩
            have hJ1 : J (pre ++ ys) O1 W1 := hJ _ _ _ _ _ HJW.out hgr hO1s
            have hkk : Kept O wr W1 := ⟨fun b hb => hgr.block b (by have := HO.out b hb; have := HKW.out.2; omega) (fun e => by cases e), hgr.size⟩
            have hE1 : Els P W1 (.slice Au b.length cu) b := HEL.out.keep (fun q hq => (hkk.cell (HPO.out _ hq)).trans ((HKW.out.cell (HPO.out _ hq)).trans (HW.out q hq)))
            have hnx : Nx P G (pre ++ ys) ⟨.mk p true b, (hs ++ [p]), .slice Au b.length cu, .slice (some ⟨g1, 0, none⟩) (hs.length + 1) cg1⟩ O1 W1 := ⟨⟨walkL b ((hs ++ [p])) ++ (walkL (l.drop (m + 1)) hs ++ post), by
              rw [HG.out, HSP.out.2, HSP.out.1, List.map_append, HYS.out]
              simp [Yd.key]⟩, hE1, hH1 O1 hO1, HI.out, fun b hb => hO1l b (HPO.out b hb)⟩
            obtain ⟨fn, tmps, assign, body, hy, hR⟩ := HY.out _ _ _ _ hJ1 hnx (n - 1)
            simp only [Yd.encs, El.p, El.c] at hy
            have HH1 := Lib.hid (hH1 O1 hO1)
            have HHB := Lib.hid hb8
            have HKK := Lib.hid hkk
            have HO1S := Lib.hid hO1s
            have HO1L := Lib.hid hO1l
            clear hE1 hnx hJ1 hgr hH1 hkk hO1s hO1l hO1
            refine (wpIn_wide (n := n)).1 ?_
            gi_wp2
            refine ⟨fun h => (by cases h), hR.mono ?_⟩
            clear hR hy
            rintro e W3 (⟨rfl, hJ3, hk3, hs3⟩ | ⟨rfl, hJx3⟩)
            · have hcell2 : W3.cell? ⟨wr.heap.size, 2, none⟩ = some (.slice Au b.length cu) := (World.cell?_of_block (hk3 _ hO8)).trans hb8c
              have hk03 : Kept O W W3 := (HKW.out.trans (O' := O) HKK.out (fun _ h => h)).trans (O' := O1) ⟨hk3, hs3⟩ HO1L.out
              have hrec := HIE.out (n - 1) O1 (.slice (some ⟨g1, 0, none⟩) (hs.length + 1) cg1) ((hs ++ [p])) (pre ++ ys ++ [⟨.mk p true b, (hs ++ [p]), .slice Au b.length cu, .slice (some ⟨g1, 0, none⟩) (hs.length + 1) cg1⟩]) (walkL (l.drop (m + 1)) hs ++ post) W3 (fun b hb => HO1L.out b (HPO.out b hb)) (fun b hb => by have := (HO1S.out b hb).2; omega)
                (fun q hq => (hk03.cell (HPO.out _ hq)).trans (HW.out q hq)) (HH1.out.keep (fun _ h => h) hk3) (by (try simp only [List.length_append, List.length_singleton]); omega) (by
                  rw [HG.out, HSP.out.2, HSP.out.1, List.map_append, List.map_append, HYS.out]
                  simp [Yd.key]) hJ3
              have HREC := Lib.hid hrec
              have HK03 := Lib.hid hk03
              clear hb8c q0 q1 hrec hk03 hk3 hJ3
              gi_wp2
              refine ⟨trivial, fun h => (by cases h), HREC.out.mono ?_⟩
              rintro e W4 (⟨rfl, ys4, hys4, hJ4, hk4⟩ | ⟨rfl, pre', hx4⟩)
              · have hk04 : Kept O W W4 := HK03.out.trans hk4 HO1L.out
                have hJd : J (pre ++ ys ++ [⟨.mk p true b, (hs ++ [p]), .slice Au b.length cu, .slice (some ⟨g1, 0, none⟩) (hs.length + 1) cg1⟩] ++ ys4) O W4 := hJ.drop hJ4 HO1L.out (fun b hb => by have := HO.out b hb; have := hk04.2; omega)
                have HYS4 := Lib.hid hys4
                have HJD := Lib.hid hJd
                have HK04 := Lib.hid hk04
                clear hk04 hJd hys4 hJ4 hk4
                gi_wp2
                go_wp2
                go_roundw
                case rel => exact ⟨m + 1, ys ++ ⟨.mk p true b, (hs ++ [p]), .slice Au b.length cu, .slice (some ⟨g1, 0, none⟩) (hs.length + 1) cg1⟩ :: ys4, by omega, by go_num, by rw [HSP.out.1, List.map_append, List.map_cons, HYS.out, HYS4.out]; simp [Yd.key], by simpa using HJD.out, HK04.out⟩
                case measure => simp [intOf]; omega
              · gi_wp2
                go_wp2
                go_ret
                exact .inr ⟨rfl, pre', hx4⟩
            · gi_wp2
              refine ⟨trivial, ?_⟩
              gi_wp2
              go_wp2
              go_ret
              exact .inr ⟨rfl, _, hJx3⟩
          · refine FrontStep.of rfl (fun K hK => ?_)
            go_simp
            refine hK _ _ hal ?_
            clear K hK
            refine Front.one (i := 1) (by kernel_rfl) (by decide) ?_
            refine FrontStep.of rfl (fun K hK => ?_)
            go_simp
            refine (clip_any Ah hs.length ch _ hch1 hch2).mono ?_
            rintro en w5 ⟨rfl, rfl⟩
            refine hK _ _ hal ?_
            clear K hK hal hHeld
            refine Front.done (by kernel_rfl) ?_
            simp only [List.drop_succ_cons, List.drop_zero]
            have hnb := Blk.newAt wz 3 #[.int .i64 p] hzs
            refine wpList_append_grows _ rfl (.tmp 20) (.tmp 23) 31 rfl 3 ii (.int .i64 0) 1 8 Tryz.underlying31 hi hz0 hz1 hz2 rfl (by decide) Ah hs.length hs.length (hs.map (Value.int .i64)) rfl ?d2a (by simp) ?d2b ⟨wr.heap.size + 1, 0, none⟩ 1 1 [.int .i64 p] rfl rfl (fun j u' hj => by rw [add_none]; exact hnb.cellAt hj) (fun u' hu => by simp at hu; subst hu; rfl) (by omega) (by unfold maxLen; omega) (by omega) ?_
            case d2a =>
              intro e
              have h0 : hs.length = 0 := by
                cases hs with
                | nil => rfl
                | cons y ys => obtain ⟨ad, h1, -⟩ := HAD.out 0 y rfl; rw [e] at h1; cases h1
              exact ⟨h0, h0⟩
            case d2b =>
              intro b' e j u hj
              rw [List.getElem?_map, Option.map_eq_some_iff] at hj
              obtain ⟨y, hy, rfl⟩ := hj
              obtain ⟨ad', h1, h2, h3, -⟩ := HAD.out j y hy
              rw [e] at h1
              cases h1
              have h4 := HO.out _ h2
              have h5 := HKW.out.2
              have h6 : (wz.alloc (.cells #[.int .i64 p] 3)).heap[b'.block]? = W.heap[b'.block]? := (Below.heap_alloc wz _ _ (by omega)).trans ((HGZ.out.block _ (by omega) (fun e => by cases e)).trans (HKW.out.1 _ h2))
              exact (World.cell?_of_block (by rw [block_add]; exact h6)).trans h3
            intro v1 W1 hown hgw
            obtain ⟨g1, cg1, rfl⟩ := ownsRow_succ hown
            have hgr : wr.grownBy W1 none := ⟨hgw.os.trans HGZ.out.os, hgw.tape.trans HGZ.out.tape, hgw.output.trans HGZ.out.output, by have := hgw.size; simp at this; omega, fun k hk hr => (hgw.block k (by simp; omega) hr).trans ((Below.heap_alloc _ _ _ (by omega)).trans (HGZ.out.block k hk hr))⟩
            have hb8 : Blk W1 wr.heap.size 36 [.int .i64 p, .bool true, .slice Au b.length cu] := (HBZ.out.alloc _).same (hgw.block _ (by simp; omega) (fun e => by cases e))
            have hH1 : ∀ O1 : Nat → Prop, (O1 = fun b => O b ∨ (wr.heap.size ≤ b ∧ b < W1.heap.size)) → HeadsAt O1 W1 (.slice (some ⟨g1, 0, none⟩) (hs.length + 1) cg1) (hs ++ [p]) := fun O1 hO1 => by
              obtain ⟨h1, h2⟩ := hown
              rcases h2 with ⟨h2, -⟩ | ⟨g, cap, cur, h2, hb, hh, hc1, hc2, hc3, hc4⟩
              · cases h2
              · cases h2
                refine ⟨_, _, by rw [List.length_append, List.length_singleton], by simpa using hc1, hc2, fun e => by simp at e, fun j x hx => ⟨_, rfl, ?_, ?_, ⟨_, _, hh⟩⟩⟩
                · rw [hO1]; have := lt_of_block hh; simp at hb; exact .inr ⟨by show wr.heap.size ≤ g1; omega, this⟩
                · exact World.ownsRow.cells (g := g1) ⟨h1, .inr ⟨g1, cg1, cur, rfl, hb, hh, hc1, hc2, hc3, hc4⟩⟩ rfl j _ (by
                    have : hs.map (Value.int .i64) ++ [.int .i64 p] = (hs ++ [p]).map (Value.int .i64) := by simp
                    rw [this, List.getElem?_map, hx]; rfl)
            clear hown hgw hnb
            go_upto_region 7 with (fail)
            have hb8c := hb8.cellAt (i := 2) rfl
            have q0 := hb8.cellAt (i := 0) rfl
            have q1 := hb8.cellAt (i := 1) rfl
            obtain ⟨O1, hO1⟩ : ∃ O1 : Nat → Prop, O1 = fun b => O b ∨ (wr.heap.size ≤ b ∧ b < W1.heap.size) := ⟨_, rfl⟩
            have hO1l : ∀ b, O b → O1 b := fun b hb => by rw [hO1]; exact .inl hb
            have hO1s : ∀ b, O1 b → (O b ∨ wr.heap.size ≤ b) ∧ b < W1.heap.size := fun b hb => by
              rw [hO1] at hb
              rcases hb with hb | hb
              · exact ⟨.inl hb, by have := HO.out b hb; have := HKW.out.2; have := hgr.size; omega⟩
              · exact ⟨.inr hb.1, hb.2⟩
            have hO8 : O1 wr.heap.size := by rw [hO1]; exact .inr ⟨Nat.le_refl _, hb8.lt⟩
            have hJ1 : J (pre ++ ys) O1 W1 := hJ _ _ _ _ _ HJW.out hgr hO1s
            have hkk : Kept O wr W1 := ⟨fun b hb => hgr.block b (by have := HO.out b hb; have := HKW.out.2; omega) (fun e => by cases e), hgr.size⟩
            have hE1 : Els P W1 (.slice Au b.length cu) b := HEL.out.keep (fun q hq => (hkk.cell (HPO.out _ hq)).trans ((HKW.out.cell (HPO.out _ hq)).trans (HW.out q hq)))
            have hnx : Nx P G (pre ++ ys) ⟨.mk p true b, (hs ++ [p]), .slice Au b.length cu, .slice (some ⟨g1, 0, none⟩) (hs.length + 1) cg1⟩ O1 W1 := ⟨⟨walkL b ((hs ++ [p])) ++ (walkL (l.drop (m + 1)) hs ++ post), by
              rw [HG.out, HSP.out.2, HSP.out.1, List.map_append, HYS.out]
              simp [Yd.key]⟩, hE1, hH1 O1 hO1, HI.out, fun b hb => hO1l b (HPO.out b hb)⟩
            obtain ⟨fn, tmps, assign, body, hy, hR⟩ := HY.out _ _ _ _ hJ1 hnx (n - 1)
            simp only [Yd.encs, El.p, El.c] at hy
            have HH1 := Lib.hid (hH1 O1 hO1)
            have HHB := Lib.hid hb8
            have HKK := Lib.hid hkk
            have HO1S := Lib.hid hO1s
            have HO1L := Lib.hid hO1l
            clear hE1 hnx hJ1 hgr hH1 hkk hO1s hO1l hO1
            refine (wpIn_wide (n := n)).1 ?_
            gi_wp2
            refine ⟨fun h => (by cases h), hR.mono ?_⟩
            clear hR hy
            rintro e W3 (⟨rfl, hJ3, hk3, hs3⟩ | ⟨rfl, hJx3⟩)
            · have hcell2 : W3.cell? ⟨wr.heap.size, 2, none⟩ = some (.slice Au b.length cu) := (World.cell?_of_block (hk3 _ hO8)).trans hb8c
              have hk03 : Kept O W W3 := (HKW.out.trans (O' := O) HKK.out (fun _ h => h)).trans (O' := O1) ⟨hk3, hs3⟩ HO1L.out
              have hrec := HIE.out (n - 1) O1 (.slice (some ⟨g1, 0, none⟩) (hs.length + 1) cg1) ((hs ++ [p])) (pre ++ ys ++ [⟨.mk p true b, (hs ++ [p]), .slice Au b.length cu, .slice (some ⟨g1, 0, none⟩) (hs.length + 1) cg1⟩]) (walkL (l.drop (m + 1)) hs ++ post) W3 (fun b hb => HO1L.out b (HPO.out b hb)) (fun b hb => by have := (HO1S.out b hb).2; omega)
                (fun q hq => (hk03.cell (HPO.out _ hq)).trans (HW.out q hq)) (HH1.out.keep (fun _ h => h) hk3) (by (try simp only [List.length_append, List.length_singleton]); omega) (by
                  rw [HG.out, HSP.out.2, HSP.out.1, List.map_append, List.map_append, HYS.out]
                  simp [Yd.key]) hJ3
              have HREC := Lib.hid hrec
              have HK03 := Lib.hid hk03
              clear hb8c q0 q1 hrec hk03 hk3 hJ3
              gi_wp2
              refine ⟨trivial, fun h => (by cases h), HREC.out.mono ?_⟩
              rintro e W4 (⟨rfl, ys4, hys4, hJ4, hk4⟩ | ⟨rfl, pre', hx4⟩)
              · have hk04 : Kept O W W4 := HK03.out.trans hk4 HO1L.out
                have hJd : J (pre ++ ys ++ [⟨.mk p true b, (hs ++ [p]), .slice Au b.length cu, .slice (some ⟨g1, 0, none⟩) (hs.length + 1) cg1⟩] ++ ys4) O W4 := hJ.drop hJ4 HO1L.out (fun b hb => by have := HO.out b hb; have := hk04.2; omega)
                have HYS4 := Lib.hid hys4
                have HJD := Lib.hid hJd
                have HK04 := Lib.hid hk04
                clear hk04 hJd hys4 hJ4 hk4
                gi_wp2
                go_wp2
                go_roundw
                case rel => exact ⟨m + 1, ys ++ ⟨.mk p true b, (hs ++ [p]), .slice Au b.length cu, .slice (some ⟨g1, 0, none⟩) (hs.length + 1) cg1⟩ :: ys4, by omega, by go_num, by rw [HSP.out.1, List.map_append, List.map_cons, HYS.out, HYS4.out]; simp [Yd.key], by simpa using HJD.out, HK04.out⟩
                case measure => simp [intOf]; omega
              · gi_wp2
                go_wp2
                go_ret
                exact .inr ⟨rfl, pre', hx4⟩
            · gi_wp2
              refine ⟨trivial, ?_⟩
              gi_wp2
              go_wp2
              go_ret
              exact .inr ⟨rfl, _, hJx3⟩
      · obtain rfl : m = l.length := by omega
        rw [List.take_length] at hys
        go_wp2
        go_ret
        exact .inl ⟨rfl, ys, hys, hJw, hkw⟩

theorem room_of_none {F : Fence} (hd : F.depth = none) (k : Nat) : F.room k := fun d h => by rw [hd] at h; cases h
theorem YieldAt.anyDepth {F : Fence} (hd : F.depth = none) {m : Nat} (m' : Nat) {P : Program} {l : Nat} {args : Array Value} {W : World} {R : Ending → World → Prop} (h : YieldAt F m P l args W R) : YieldAt F m' P l args W R := by
  obtain ⟨fn, tmps, assign, body, hy, h1, h2⟩ := h
  exact ⟨fn, tmps, assign, body, hy, h1, fun c cs _ => h2 c cs (room_of_none hd _)⟩

/-- 'all(l)': the slice is boxed. -/
theorem all_any (A : Option Addr) (m c : Nat) (w : World) :
    Calls Tryz.prog 30 #[.slice A m c] w fun e w' => e = .returned (.func (.func 49) #[] #[.pointer (some ⟨w.heap.size, 0, none⟩)]) ∧ w' = w.alloc (.cells #[.slice A m c] 27) := by
  go_enter Tryz.func30, Tryz.ntmps30
  go_wp2
  go_ret
  exact ⟨rfl, rfl⟩

set_option maxRecDepth 100000 in
set_option maxHeartbeats 1000000 in
/-- The value that 'all' hands back, as an iterator. -/
theorem all_seq (n : Nat) {P : Nat → Prop} {w : World} {A : Option Addr} {c Bt : Nat} {l : List El} (hBt : Blk w Bt 27 [.slice A l.length c]) (h : Els P w (.slice A l.length c) l) (hP : ∀ b, P b → b < w.heap.size) (hlen : (ptsL l).length ≤ 1000000) :
    SeqG Fence.wide n Tryz.prog 49 #[.pointer (some ⟨Bt, 0, none⟩)] Yd.encs (Nx P (walkL l [])) (fun ys => ys.map Yd.key = walkL l []) P w := by
  intro lb J Jx W hW hJ _ hY h0
  have hc := (hBt.below hW hBt.lt).cellAt (i := 0) rfl
  have hw := walk_any h lb J Jx hJ (walkL l []) (fun pre y O W1 hj hn m => YieldAt.anyDepth rfl m (hY pre y O W1 hj hn)) (n - 1) P (.slice none 0 0) [] [] [] W (fun _ h => h) (fun b hb => Nat.lt_of_lt_of_le (hP b hb) hW.size) (fun p hp => hW.cell (hP _ hp)) (HeadsAt.nil _ _) (by simpa using hlen) (by simp) h0
  have HW := Lib.hid hw
  clear hw hY h0 hJ
  refine callsIn_of_wp Tryz.func49 rfl trivial ?_ rfl
  simp only [Tryz.ntmps49, List.size_toArray, List.length_cons, List.length_nil, Nat.reduceAdd, Nat.reduceSub, Array.replicate_succ, Array.replicate_zero, List.push_toArray, List.append_toArray, List.nil_append, List.cons_append]
  gi_wp2
  refine ⟨trivial, fun h => (by cases h), HW.out.mono ?_⟩
  rintro e W1 (⟨rfl, ys, hys, hJ1, -⟩ | ⟨rfl, pre', hx⟩)
  · gi_wp2
    go_end0
    exact ⟨⟨_, rfl⟩, .inl ⟨ys, hys, by simpa using hJ1⟩⟩
  · gi_wp2
    go_end0
    exact ⟨⟨_, rfl⟩, .inr ⟨_, hx⟩⟩
#print axioms all_seq
end Go.Proofs.YthaampinmelgaaaGreatDoor
