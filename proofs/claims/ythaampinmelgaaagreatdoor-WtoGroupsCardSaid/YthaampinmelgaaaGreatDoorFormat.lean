/- Package wto: Format. -/
import Derived.Test.YthaampinmelgaaaGreatDoorOf
import Derived.Test.YthaampinmelgaaaGreatDoorLaid3
import Derived.Test.YthaampinmelgaaaGreatDoorWtoL
namespace Go.Proofs.YthaampinmelgaaaGreatDoor
open Go.RowKit Go.Shelf

mutual
def El.fmt : El → List UInt8
  | .mk p c b => if c then 40 :: ((if b.length = 0 then Lib.itoa p else Lib.itoa p ++ 32 :: Lib.join (fmtsL b) [32]) ++ [41]) else Lib.itoa p
def fmtsL : List El → List (List UInt8)
  | [] => []
  | x :: l => x.fmt :: fmtsL l
end
theorem El.fmt_mk (p : Int) (c : Bool) (b : List El) : (El.mk p c b).fmt = if c then 40 :: ((if b.length = 0 then Lib.itoa p else Lib.itoa p ++ 32 :: Lib.join (fmtsL b) [32]) ++ [41]) else Lib.itoa p := by simp [El.fmt]
theorem fmtsL_map : ∀ l : List El, fmtsL l = l.map El.fmt
  | [] => by simp [fmtsL]
  | x :: l => by simp [fmtsL, fmtsL_map l]
/-- The text of a list. -/
def fmtL (l : List El) : List UInt8 := Lib.join (fmtsL l) [32]
theorem le_lens : ∀ (xs : List (List UInt8)) (y : List UInt8), y ∈ xs → y.length ≤ Lib.lens xs
  | x :: xs, y, h => by
    rcases List.mem_cons.1 h with rfl | h
    · simp [Lib.lens]
    · have := le_lens xs y h
      simp [Lib.lens] at this ⊢
      omega
theorem le_join {xs : List (List UInt8)} {y sep : List UInt8} (h : y ∈ xs) : y.length ≤ (Lib.join xs sep).length := by
  cases xs with
  | nil => cases h
  | cons x r =>
    rw [Lib.join_length]
    have := le_lens _ _ h
    omega
theorem own_under {e : TypeId} {w w' : World} {base n m : Nat} {v : Value} {xs : List Value} (h : w.ownsRow base e m v n xs) (hb : Below w.heap.size w w') : w'.ownsRow base e m v n xs := by
  rcases h with ⟨hl, ⟨rfl, hn⟩ | ⟨g, cap, cur, rfl, hb', hh, h1, h2, h3, h4⟩⟩
  · exact ⟨hl, .inl ⟨rfl, hn⟩⟩
  · exact ⟨hl, .inr ⟨g, cap, cur, rfl, hb', (hb.block g (lt_of_block hh)).trans hh, h1, h2, h3, h4⟩⟩
abbrev strV (s : List UInt8) : Value := .string ⟨s.toArray⟩
def NumOk (B : Nat) (w0 : World) (D : Int → Prop) : Prop := ∀ p, D p → ∀ W, Below B w0 W → Calls Tryz.prog 35 #[.int .i64 p] W fun en w' => en = .returned (strV (Lib.itoa p)) ∧ Below W.heap.size W w'
theorem info_str : (Tryz.prog.info? 9).map (fun i => (i.zero, i.size, i.bytes)) = some (some (.string ⟨#[]⟩), 1, 16) := by kernel_rfl

theorem pts_sub : ∀ {l : List El} {x : El}, x ∈ l → ∀ p ∈ x.pts, p ∈ ptsL l
  | y :: l, x, h, p, hp => by
    rw [ptsL_cons]
    rcases List.mem_cons.1 h with rfl | h
    · exact List.mem_append_left _ hp
    · exact List.mem_append_right _ (pts_sub h p hp)
theorem join_extra : Builder.Extra Tryz.prog Tryz.lays156_ren := {
  sizeBuilder := by kernel_rfl
  liesBuilder := by kernel_rfl
  t5 := Tryz.underlying5
  a5 := Tryz.isAgg5
  z5 := Tryz.sizeOf5
  v5 := Tryz.zeroValue5
  infoByte := by kernel_rfl
  cellsByte := by kernel_rfl
  sizeByte := by kernel_rfl
  neB5 := by decide }
theorem join_own {base : Nat} {w : World} {v : Value} {ss : List (List UInt8)} (hown : w.ownsRow base 9 1 v ss.length (ss.map strV)) (hlen : (Lib.join ss [32]).length ≤ 1000000000) :
    Calls Tryz.prog 36 #[v, .string ⟨#[32]⟩] w fun en w' => en = .returned (strV (Lib.join ss [32])) ∧ Below w.heap.size w w' := by
  rcases hown.2 with ⟨rfl, hn⟩ | ⟨g, cap, cur, rfl, hb, hh, h1, h2, h3, h4⟩
  · have : ss = [] := List.eq_nil_of_length_eq_zero hn
    subst this
    exact (Any.strings_Join_none Tryz.lays156 join_extra none 0 ⟨#[32]⟩ w).mono fun en w' ⟨he, hw⟩ => ⟨he, hw ▸ Below.refl _ _⟩
  · have hsl : ss.length ≤ 1000000001 := by
      cases ss with
      | nil => simp
      | cons x r =>
        rw [Lib.join_length] at hlen
        simp at hlen ⊢
        omega
    have hm : (ss.map fun s => (⟨s.toArray⟩ : ByteArray)).map (·.data.toList) = ss := by rw [List.map_map]; exact List.map_id ss
    have hx : ∀ (j : Nat) x, (ss.map fun s => (⟨s.toArray⟩ : ByteArray))[j]? = some x → w.cell? ⟨g, 0 + j, none⟩ = some (.string x) := fun j x hx => by
      rw [List.getElem?_map] at hx
      cases hs : ss[j]? with
      | none => rw [hs] at hx; cases hx
      | some s =>
        rw [hs] at hx
        cases hx
        have hj : j < ss.length := (List.getElem?_eq_some_iff.1 hs).1
        rw [Nat.zero_add, hown.cellAt j (by omega), List.getElem?_map, hs]
        rfl
    have hc := Any.strings_Join Tryz.lays156 join_extra g 0 cap (ss.map fun s => ⟨s.toArray⟩) ⟨#[32]⟩ w hx (lt_of_block hh) (by rw [List.length_map]; omega) (by simpa using h1) (by rw [hm]; exact Nat.le_trans hlen (by omega))
    rw [hm, List.length_map] at hc
    exact hc

theorem ba_append (a b : List UInt8) : (⟨a.toArray⟩ : ByteArray) ++ ⟨b.toArray⟩ = ⟨(a ++ b).toArray⟩ := by
  apply ByteArray.ext
  simp

set_option maxRecDepth 100000 in
set_option maxHeartbeats 4000000 in
theorem format_any {B : Nat} {w0 : World} {D : Int → Prop} (hnum : NumOk B w0 D) {P : Nat → Prop} {w : World} {v : Value} {l : List El} (h : Els P w v l) : ∀ W : World, (∀ p : Addr, P p.block → W.cell? p = w.cell? p) → (∀ b, P b → b < W.heap.size) →
    Below B w0 W → B ≤ W.heap.size → (∀ p ∈ ptsL l, D p) → (fmtL l).length ≤ 1000000000 →
    Calls Tryz.prog 15 #[v] W fun en W' => en = .returned (strV (fmtL l)) ∧ Below W.heap.size W W' := by
  induction h with
  | mk A c l us hlc hm hz hc hr ih =>
    intro W hW hPW hB0 hBW hD hlen
    have HC := Lib.hid hc
    have HIH := Lib.hid ih
    have HR := Lib.hid hr
    have HW := Lib.hid hW
    have HPW := Lib.hid hPW
    have HNU := Lib.hid hnum
    have HB0 := Lib.hid hB0
    have HBW := Lib.hid hBW
    have HD := Lib.hid hD
    have HLEN := Lib.hid hlen
    have hl63 : l.length ≤ 9223372036854775807 := by unfold maxLen at hm; omega
    clear hc hr ih hW hPW hm hnum hB0 hBW hD hlen
    go_enter Tryz.func15, Tryz.ntmps15
    go_wp2
    go_loopw [3, 9] (fun x y wr => ∃ (m : Nat) (vo : Value), m ≤ l.length ∧ vo = x ∧ y = .int .i64 m ∧ wr.ownsRow W.heap.size 9 1 vo m ((fmtsL (l.take m)).map strV) ∧ Below W.heap.size W wr) (fun _ y _ => l.length - (intOf y).toNat)
    case atStart => exact ⟨0, _, Nat.zero_le _, rfl, rfl, World.ownsRow_nil _ _ _ _, Below.refl _ _⟩
    case round =>
      obtain ⟨m, vo, hm, rfl, rfl, hown, hbw⟩ := hrel
      by_cases hlt : m < l.length
      · obtain ⟨x, hx⟩ : ∃ x, l[m]? = some x := ⟨_, List.getElem?_eq_getElem hlt⟩
        obtain ⟨ad, hA, hPad, e0, e1, e2, hI⟩ := HC.out m x hx
        subst hA
        have hk : ∀ i, wr.cell? (ad.add i) = w.cell? (ad.add i) := fun i => (hbw.cell (by rw [block_add]; exact HPW.out _ hPad)).trans (HW.out _ (by rw [block_add]; exact hPad))
        have c0 := (hk (m * 3)).trans e0
        have c1 := (hk (m * 3 + 1)).trans e1
        have c2 := (hk (m * 3 + 2)).trans e2
        rw [← add_add', addrOne] at c1
        rw [← add_add', addrTwo] at c2
        have hih := HIH.out m x hx
        have htk : fmtsL (l.take (m + 1)) = fmtsL (l.take m) ++ [x.fmt] := by rw [List.take_add_one, hx, fmtsL_map, fmtsL_map, List.map_append]; rfl
        have hxl : x.fmt.length ≤ 1000000000 := Nat.le_trans (le_join (by rw [fmtsL_map]; exact List.mem_map_of_mem (List.mem_of_getElem? hx))) HLEN.out
        have hxp : ∀ p ∈ x.pts, D p := fun p hp => HD.out p (pts_sub (List.mem_of_getElem? hx) p hp)
        obtain ⟨Au, cu, hu, -⟩ := (HR.out m x hx).shape
        rw [hu] at c2 hih
        clear hu
        obtain ⟨p, c, body⟩ := x
        rw [El.fmt_mk] at hxl
        simp only [El.p, El.c, El.body] at c0 c1 c2 hih hI
        have hDp : D p := hxp p (by rw [El.pts_mk]; simp)
        have hlt1 : (m : Int) < (l.length : Int) := by omega
        have hbA : Below B w0 (wr.alloc (.cells #[.int .i64 p, .bool c, .slice Au body.length cu] 36)) := (HB0.out.trans (hbw.mono HBW.out)).alloc (Nat.le_trans HBW.out hbw.size) _
        have hbC : Below W.heap.size W (wr.alloc (.cells #[.int .i64 p, .bool c, .slice Au body.length cu] 36)) := hbw.alloc hbw.size _
        have hnu := HNU.out p hDp _ hbA
        have hown1 := hown.alloc (.cells #[.int .i64 p, .bool c, .slice Au body.length cu] 36)
        have hbk := Blk.newAt wr 36 #[.int .i64 p, .bool c, .slice Au body.length cu] rfl
        have hpn : c = true → body.length ≠ 0 → (fmtL body).length ≤ 1000000000 := fun h1 h2 => by
          rw [h1] at hxl
          simp [h2] at hxl
          unfold fmtL
          omega
        have hil : (Lib.itoa p).length ≤ 1000000000 := by
          cases c
          · simpa using hxl
          · by_cases h2 : body.length = 0
            · simp [h2] at hxl; omega
            · simp [h2] at hxl; omega
        have HIL := Lib.hid hil
        have HPN := Lib.hid hpn
        have HXP := Lib.hid hxp
        have HIHX := Lib.hid hih
        have HNX := Lib.hid hnu
        have HTK := Lib.hid htk
        have HOWN := Lib.hid hown1
        have HBC := Lib.hid hbC
        have HBA := Lib.hid hbA
        have HBK := Lib.hid hbk
        have HPA := Lib.hid hPad
        have HII := Lib.hid hI
        clear hil hpn hxp hih hnu htk hown hown1 hbA hbC hbk hbw hPad hI hxl hDp e0 e1 e2 hk hx
        go_upto_region 6 with (go_at_call 35; refine HNX.out.mono ?_; rintro en w5 ⟨rfl, hb5⟩)
        have hsz5 : wr.heap.size + 1 ≤ w5.heap.size := by have := hb5.size; simpa using this
        have hk5 : Blk w5 wr.heap.size 36 [.int .i64 p, .bool c, .slice Au body.length cu] := HBK.out.same (hb5.block _ (by simp))
        have own5 := own_under HOWN.out hb5
        have hb05 : Below B w0 w5 := HBA.out.trans (hb5.mono (Nat.le_trans HBW.out HBC.out.size))
        have hbw5 : Below W.heap.size W w5 := HBC.out.trans (hb5.mono HBC.out.size)
        have hB5 := HBA.out.size
        have hW5 := HBC.out.size
        have d1 := hk5.cellAt (i := 1) rfl
        have d2 := hk5.cellAt (i := 2) rfl
        have OWN5 := Lib.hid own5
        have HK5 := Lib.hid hk5
        have HB05 := Lib.hid hb05
        have HBW5 := Lib.hid hbw5
        clear hb5 hk5 own5 hb05 hbw5
        cases c with
        | false =>
          go_upto_region 10 with fail
          have HS0 : (⟨(Lib.itoa p).toArray⟩ : ByteArray) = ⟨(El.mk p false body).fmt.toArray⟩ := by rw [El.fmt_mk]; rfl
          obtain ⟨wq, hwq⟩ : ∃ wq, wq = w5 := ⟨_, rfl⟩
          have OWNQ : Hid (wq.ownsRow W.heap.size 9 1 vo m ((fmtsL (l.take m)).map strV)) := by rw [hwq]; exact OWN5
          have HBQ : Hid (Below W.heap.size W wq) := by rw [hwq]; exact HBW5
          rw [← hwq]
          clear d1 d2 OWN5 HB05 HBW5 HK5 hwq
          revert HS0
          unfold strV
          generalize (⟨(Lib.itoa p).toArray⟩ : ByteArray) = S
          intro HS0
          have HS := Lib.hid HS0
          clear HS0
          have hWq := HBQ.out.size
          have OWNA := OWNQ.out.alloc (.cells #[.string S] 9)
          have hnb := Blk.newAt wq 9 #[.string S] rfl
          have hba := HBQ.out.alloc hWq (.cells #[.string S] 9)
          have hWs := hba.size
          obtain ⟨il, hil, hl0, hl1, hl2⟩ := info_parts info_str
          have hm47 : m ≤ 3518437208883 := by omega
          have HBAQ := Lib.hid hba
          clear hba
          go_wp2_with (at_builtin; refine wpList_append_lies _ rfl (.tmp 35) (.tmp 37) 90 rfl W.heap.size 9 il (.string ⟨#[]⟩) 1 16 Tryz.underlying90 hil hl0 hl1 hl2 rfl (by decide) vo m ((fmtsL (l.take m)).map strV) rfl OWNA ⟨wq.heap.size, 0, none⟩ 1 1 [.string S] rfl rfl (fun j u' hj => by rw [add_none]; exact hnb.cellAt hj) ?c2 (by decide) ?c3 ?c4 hWs _ rfl ?_)
          case c2 => first | exact rfl | (intro u' hu; simp at hu; rcases hu with rfl; rfl)
          case c3 => unfold maxLen; omega
          case c4 => omega
          intro g cg w7 hown7 hgr7 hat7 _
          have hbe := HBAQ.out.grown hgr7 hWs (fun k hk => (OWNA.lt k hk).1)
          have hown8 : w7.ownsRow W.heap.size 9 1 (.slice (some ⟨g, 0, none⟩) (m + 1) cg) (m + 1) ((fmtsL (l.take (m + 1))).map strV) := by
            rw [HTK.out, List.map_append]
            have e : ([.string S] : List Value) = [(El.mk p false body).fmt].map strV := by rw [HS.out]; rfl
            rw [← e]
            exact hown7
          have HBE := Lib.hid hbe
          have HOW := Lib.hid hown8
          clear hbe hown7 hown8 hgr7 hat7 hnb hWs OWNA
          go_wp2
          go_roundw
          case rel => exact ⟨m + 1, _, by omega, rfl, by go_num, HOW.out, HBE.out⟩
          case measure => simp [intOf]; omega
        | true =>
          by_cases hz0 : body.length = 0
          · obtain rfl : body = [] := List.eq_nil_of_length_eq_zero hz0
            have s1 : ¬ 9223372036854775807 < 1 + (Lib.itoa p).length := by have := HIL.out; omega
            have s2 : ¬ 9223372036854775807 < 1 + (Lib.itoa p).length + 1 := by have := HIL.out; omega
            go_upto_region 10 with fail
            have HS0 : (⟨#[40]⟩ : ByteArray) ++ ⟨(Lib.itoa p).toArray⟩ ++ ⟨#[41]⟩ = ⟨(El.mk p true []).fmt.toArray⟩ := by
              rw [show (⟨#[40]⟩ : ByteArray) = ⟨[40].toArray⟩ from rfl, show (⟨#[41]⟩ : ByteArray) = ⟨[41].toArray⟩ from rfl, ba_append, ba_append, El.fmt_mk]
              simp
            obtain ⟨wq, hwq⟩ : ∃ wq, wq = w5 := ⟨_, rfl⟩
            have OWNQ : Hid (wq.ownsRow W.heap.size 9 1 vo m ((fmtsL (l.take m)).map strV)) := by rw [hwq]; exact OWN5
            have HBQ : Hid (Below W.heap.size W wq) := by rw [hwq]; exact HBW5
            rw [← hwq]
            clear d1 d2 OWN5 HB05 HBW5 HK5 hwq s1 s2
            revert HS0
            generalize (⟨#[40]⟩ : ByteArray) ++ ⟨(Lib.itoa p).toArray⟩ ++ ⟨#[41]⟩ = S
            intro HS0
            have HS := Lib.hid HS0
            clear HS0
            have hWq := HBQ.out.size
            have OWNA := OWNQ.out.alloc (.cells #[.string S] 9)
            have hnb := Blk.newAt wq 9 #[.string S] rfl
            have hba := HBQ.out.alloc hWq (.cells #[.string S] 9)
            have hWs := hba.size
            obtain ⟨il, hil, hl0, hl1, hl2⟩ := info_parts info_str
            have hm47 : m ≤ 3518437208883 := by omega
            have HBAQ := Lib.hid hba
            clear hba
            go_wp2_with (at_builtin; refine wpList_append_lies _ rfl (.tmp 35) (.tmp 37) 90 rfl W.heap.size 9 il (.string ⟨#[]⟩) 1 16 Tryz.underlying90 hil hl0 hl1 hl2 rfl (by decide) vo m ((fmtsL (l.take m)).map strV) rfl OWNA ⟨wq.heap.size, 0, none⟩ 1 1 [.string S] rfl rfl (fun j u' hj => by rw [add_none]; exact hnb.cellAt hj) ?c2 (by decide) ?c3 ?c4 hWs _ rfl ?_)
            case c2 => first | exact rfl | (intro u' hu; simp at hu; rcases hu with rfl; rfl)
            case c3 => unfold maxLen; omega
            case c4 => omega
            intro g cg w7 hown7 hgr7 hat7 _
            have hbe := HBAQ.out.grown hgr7 hWs (fun k hk => (OWNA.lt k hk).1)
            have hown8 : w7.ownsRow W.heap.size 9 1 (.slice (some ⟨g, 0, none⟩) (m + 1) cg) (m + 1) ((fmtsL (l.take (m + 1))).map strV) := by
              rw [HTK.out, List.map_append]
              have e : ([.string S] : List Value) = [(El.mk p true []).fmt].map strV := by rw [HS.out]; rfl
              rw [← e]
              exact hown7
            have HBE := Lib.hid hbe
            have HOW := Lib.hid hown8
            clear hbe hown7 hown8 hgr7 hat7 hnb hWs OWNA
            go_wp2
            go_roundw
            case rel => exact ⟨m + 1, _, by omega, rfl, by go_num, HOW.out, HBE.out⟩
            case measure => simp [intOf]; omega
          · have hz1 : (0 : Int) < (body.length : Int) := by omega
            have hz2 : 0 < body.length := by omega
            have hcall := HIHX.out w5 (fun q hq => (HBW5.out.cell (HPW.out _ hq)).trans (HW.out q hq)) (fun b hb => by have := HPW.out b hb; have := HBW5.out.size; omega) HB05.out (by have := HB05.out.size; have := HBW.out; have := HBW5.out.size; omega) (fun q hq => HXP.out q (by rw [El.pts_mk]; exact List.mem_cons_of_mem _ hq)) (HPN.out rfl hz0)
            have HCALL := Lib.hid hcall
            have s1 : ¬ 9223372036854775807 < 1 + (fmtL body).length := by have := HPN.out rfl hz0; omega
            have s2 : ¬ 9223372036854775807 < (Lib.itoa p).length + (1 + (fmtL body).length) := by have := HIL.out; have := HPN.out rfl hz0; omega
            have s3 : ¬ 9223372036854775807 < 1 + ((Lib.itoa p).length + (1 + (fmtL body).length)) := by have := HIL.out; have := HPN.out rfl hz0; omega
            have s4 : ¬ 9223372036854775807 < 1 + ((Lib.itoa p).length + (1 + (fmtL body).length)) + 1 := by have := HIL.out; have := HPN.out rfl hz0; omega
            clear hcall
            go_upto_region 10 with (go_at_call 15; refine HCALL.out.mono ?_; rintro en w6 ⟨rfl, hb6⟩; have g1 := (HK5.out.same (hb6.block _ (by omega))).cellAt (i := 1) rfl)
            have HS0 : (⟨#[40]⟩ : ByteArray) ++ (⟨(Lib.itoa p).toArray⟩ ++ (⟨#[32]⟩ ++ ⟨(fmtL body).toArray⟩)) ++ ⟨#[41]⟩ = ⟨(El.mk p true body).fmt.toArray⟩ := by
              rw [show (⟨#[40]⟩ : ByteArray) = ⟨[40].toArray⟩ from rfl, show (⟨#[41]⟩ : ByteArray) = ⟨[41].toArray⟩ from rfl, show (⟨#[32]⟩ : ByteArray) = ⟨[32].toArray⟩ from rfl, ba_append, ba_append, ba_append, ba_append, El.fmt_mk]
              simp [hz0, fmtL]
            obtain ⟨wq, hwq⟩ : ∃ wq, wq = w6 := ⟨_, rfl⟩
            have OWNQ : Hid (wq.ownsRow W.heap.size 9 1 vo m ((fmtsL (l.take m)).map strV)) := by rw [hwq]; exact Lib.hid (own_under OWN5.out hb6)
            have HBQ : Hid (Below W.heap.size W wq) := by rw [hwq]; exact Lib.hid (HBW5.out.trans (hb6.mono HBW5.out.size))
            rw [← hwq]
            clear d1 d2 OWN5 HB05 HBW5 HK5 hwq s1 s2 s3 s4 g1 hb6
            revert HS0
            generalize (⟨#[40]⟩ : ByteArray) ++ (⟨(Lib.itoa p).toArray⟩ ++ (⟨#[32]⟩ ++ ⟨(fmtL body).toArray⟩)) ++ ⟨#[41]⟩ = S
            intro HS0
            have HS := Lib.hid HS0
            clear HS0
            have hWq := HBQ.out.size
            have OWNA := OWNQ.out.alloc (.cells #[.string S] 9)
            have hnb := Blk.newAt wq 9 #[.string S] rfl
            have hba := HBQ.out.alloc hWq (.cells #[.string S] 9)
            have hWs := hba.size
            obtain ⟨il, hil, hl0, hl1, hl2⟩ := info_parts info_str
            have hm47 : m ≤ 3518437208883 := by omega
            have HBAQ := Lib.hid hba
            clear hba
            go_wp2_with (at_builtin; refine wpList_append_lies _ rfl (.tmp 35) (.tmp 37) 90 rfl W.heap.size 9 il (.string ⟨#[]⟩) 1 16 Tryz.underlying90 hil hl0 hl1 hl2 rfl (by decide) vo m ((fmtsL (l.take m)).map strV) rfl OWNA ⟨wq.heap.size, 0, none⟩ 1 1 [.string S] rfl rfl (fun j u' hj => by rw [add_none]; exact hnb.cellAt hj) ?c2 (by decide) ?c3 ?c4 hWs _ rfl ?_)
            case c2 => first | exact rfl | (intro u' hu; simp at hu; rcases hu with rfl; rfl)
            case c3 => unfold maxLen; omega
            case c4 => omega
            intro g cg w7 hown7 hgr7 hat7 _
            have hbe := HBAQ.out.grown hgr7 hWs (fun k hk => (OWNA.lt k hk).1)
            have hown8 : w7.ownsRow W.heap.size 9 1 (.slice (some ⟨g, 0, none⟩) (m + 1) cg) (m + 1) ((fmtsL (l.take (m + 1))).map strV) := by
              rw [HTK.out, List.map_append]
              have e : ([.string S] : List Value) = [(El.mk p true body).fmt].map strV := by rw [HS.out]; rfl
              rw [← e]
              exact hown7
            have HBE := Lib.hid hbe
            have HOW := Lib.hid hown8
            clear hbe hown7 hown8 hgr7 hat7 hnb hWs OWNA
            go_wp2
            go_roundw
            case rel => exact ⟨m + 1, _, by omega, rfl, by go_num, HOW.out, HBE.out⟩
            case measure => simp [intOf]; omega
      · obtain rfl : m = l.length := by omega
        rw [List.take_length] at hown
        have hjo := join_own (ss := fmtsL l) (by rw [fmtsL_map, List.length_map, ← fmtsL_map]; exact hown) HLEN.out
        have HJ := Lib.hid hjo
        have hws := hbw.size
        clear hown hjo
        go_wp2_with (go_at_call 36; refine HJ.out.mono ?_; rintro en w5 ⟨rfl, hb5⟩)
        go_ret
        exact ⟨rfl, hbw.trans (hb5.mono hws)⟩
end Go.Proofs.YthaampinmelgaaaGreatDoor
