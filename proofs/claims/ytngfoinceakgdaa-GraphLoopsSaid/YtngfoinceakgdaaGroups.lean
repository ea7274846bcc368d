/- Package graph: groups. -/
import Derived.Test.YtngfoinceakgdaaGroup
import Derived.Test.YtngfoinceakgdaaSort
import Derived.Test.YtngfoinceakgdaaSortG
import Derived.Test.YtngfoinceakgdaaCompare
import Derived.Test.YtngfoinceakgdaaDomTop
namespace Go.Proofs.Ytngfoinceakgdaa
open Go.RowKit Go.Shelf

/-- The row 0, 1, 2 .. while it is filled. -/
def fillV (n m : Nat) : List Value := ((List.range n).take m).map natV ++ List.replicate (n - m) (.int .i64 0)
theorem fillV_zero (n : Nat) : fillV n 0 = List.replicate n (.int .i64 0) := rfl
theorem fillV_full (n : Nat) : fillV n n = (List.range n).map natV := by
  unfold fillV
  rw [List.take_of_length_le (by simp), Nat.sub_self, List.replicate_zero, List.append_nil]
theorem fillV_get (n m : Nat) (h : m < n) : (fillV n m)[m]? = some (.int .i64 0) := by
  unfold fillV
  have hl : (((List.range n).take m).map natV).length = m := by simp; omega
  rw [List.getElem?_append_right (by omega), hl, Nat.sub_self, List.getElem?_replicate, if_pos (by omega)]
theorem fillV_set (n m : Nat) (h : m < n) : (fillV n m).set m (.int .i64 (m : Int)) = fillV n (m + 1) := by
  unfold fillV
  have hl : (((List.range n).take m).map natV).length = m := by simp; omega
  rw [List.set_append, if_neg (by omega), hl, Nat.sub_self, List.take_succ_eq_append_getElem (by simpa using h), List.map_append, List.append_assoc]
  congr 1
  obtain ⟨q, hq⟩ : ∃ q, n - m = q + 1 := ⟨n - m - 1, by omega⟩
  rw [hq, List.replicate_succ, List.set_cons_zero, show n - (m + 1) = q by omega]
  simp [natV]

/-- The groups that have been found, and what has been taken. -/
structure QS (w4 W : World) (base sb n xv tk tv : Nat) (s' : Shp) (tkl : List Bool) (gs : List (List Nat)) (vl : Value) (pvs : List Value) : Prop where
  x : Blk W xv 88 [.pointer (some ⟨sb, 0, none⟩)]
  tv : Blk W tv 61 [.slice (some ⟨tk, 0, none⟩) n n]
  tk : Blk W tk 4 (tkl.map Value.bool)
  len : tkl.length = n
  sh : IsShape w4.heap.size W sb s'
  own : W.ownsRow base 27 1 vl gs.length pvs
  fam : Fam 3 W base pvs gs
  bel : Below w4.heap.size w4 W
  hb : base ≤ W.heap.size

theorem own_only {w w' : World} {S : Nat → Prop} {e : TypeId} {base n m : Nat} {v : Value} {xs : List Value} (h : w.ownsRow base e m v n xs) (ho : Only S w w') (hS : ∀ b, v.ownBlock = some b → ¬ S b) : w'.ownsRow base e m v n xs := by
  refine ⟨h.1, h.2.imp id ?_⟩
  rintro ⟨g, cap, cur, rfl, h1, hh, h2⟩
  exact ⟨g, cap, cur, rfl, h1, (ho.block g (lt_of_block hh) (hS g rfl)).trans hh, h2⟩
theorem Fam.onlyOf {e : TypeId} {w w' : World} {S : Nat → Prop} {base : Nat} {R : List Value} {L : List (List Nat)} (h : Fam e w base R L) (ho : Only S w w') (hS : ∀ v ∈ R, ∀ b, v.ownBlock = some b → ¬ S b) : Fam e w' base R L :=
  ⟨h.len, fun i v l hv hl => own_only (h.own i v l hv hl) ho (hS v (List.mem_of_getElem? hv)), h.apart⟩
theorem natss_of {w : World} {base base' : Nat} {v : Value} {gs : List (List Nat)} {pvs : List Value} (h : w.ownsRow base 27 1 v gs.length pvs) (hf : Fam 3 w base' pvs gs) : Natss w.heap.size w v gs := by
  have h0 := h
  rcases h.2 with ⟨rfl, hn⟩ | ⟨g, cap, cur, rfl, _, hh, h1, h2, h3, h4⟩
  · have : gs = [] := List.eq_nil_of_length_eq_zero hn
    subst this
    exact Sl.nil _ _ _
  · refine ⟨_, cap, rfl, h1, h2, fun j x hx => ?_⟩
    have hj : j < pvs.length := by rw [hf.len]; exact (List.getElem?_eq_some_iff.1 hx).1
    exact ⟨_, pvs[j], rfl, lt_of_block hh, h0.cells (g := g) rfl j _ (List.getElem?_eq_getElem hj), nats_fam hf (List.getElem?_eq_getElem hj) hx⟩

theorem fam_single {e : TypeId} {w : World} {base : Nat} {v : Value} {l : List Nat} (h : w.ownsRow base e 1 v l.length (l.map natV)) : Fam e w base [v] [l] := by
  refine ⟨rfl, fun i u m hu hm => ?_, fun i j u x hu hx hne => ?_⟩
  · cases i with
    | zero => cases hu; cases hm; exact h
    | succ i => cases hu
  · cases i with
    | zero =>
      cases j with
      | zero => exact absurd rfl hne
      | succ j => cases hx
    | succ i => cases hu

theorem QS.drewN {w4 W : World} {base sb n xv tk tv : Nat} {s' : Shp} {tkl : List Bool} {gs : List (List Nat)} {vl : Value} {pvs : List Value} (h : QS w4 W base sb n xv tk tv s' tkl gs vl pvs) (q : Nat) : QS w4 (W.drewN q) base sb n xv tk tv s' tkl gs vl pvs :=
  ⟨h.x, h.tv, h.tk, h.len, h.sh.below ⟨rfl, rfl, rfl, Nat.le_refl _, fun _ _ => rfl⟩, h.own, h.fam.drewN q, below_drewN' h.bel q, h.hb⟩

set_option maxRecDepth 100000 in
set_option maxHeartbeats 4000000 in
theorem groups_any (B : Nat) (w : World) (sa n : Nat) (exit : Int) (E : List (Nat × Nat)) (hs : IsShape B w sa (shapeOf n E)) (hB : B ≤ w.heap.size) (hg : GOk n exit E) (k : Nat) (t : List Bool × List Nat) (r : List Bool × List (List Nat))
    (hd : foldO (dfsV (shapeOf n E).next (-1) k) (List.range n) (List.replicate n false, []) = some t) (hlen : t.2.length ≤ 100000) (hord : ∀ x ∈ t.2, x < n)
    (hgl : ∀ (sn : List Bool) (p : Nat) (u : List Bool × List Nat), sn.length = n → grpV ((shapeOf n E).rev 0).next k (sn, []) p = some u → u.2.length ≤ 1000000) (hr : grpsF ((shapeOf n E).rev 0).next k n t.2 = some r) (hrn : r.2.Nodup) (hr0 : 0 < r.2.length) :
    Calls Try.prog 48 #[.pointer (some ⟨sa, 0, none⟩)] w fun en w' => ∃ v, en = .returned v ∧ Natss w'.heap.size w' v (sortG r.2) ∧ Below w.heap.size w w' := by
  obtain ⟨hsa, vf, vt, vo, vi, hblk, -, -, -, -⟩ := id hs
  have hn512 := hg.n512
  have hn1 := hg.n1
  have c0 : w.cell? ⟨sa, 0, none⟩ = some (.int .i64 (n : Int)) := hblk.cellAt (i := 0) rfl
  have hmk := make_one (P := Try.prog) 27 3 (.int .i64 0) 8 Try.underlying27 info_int rfl n (by omega) (by omega)
  have hmb := make_one (P := Try.prog) 61 4 (.bool false) 1 Try.underlying61 info_bool rfl n (by omega) (by omega)
  have hmf : ∀ (fn : Fn) (first cap : Array Value) (w : World), (Instr.makeFunc fn first cap).run Try.prog w = .ok (.func fn first cap) w := fun _ _ _ _ => rfl
  have hall0 : Blk (w.alloc (.cells (Array.replicate n (.int .i64 0)) 3)) w.heap.size 3 (fillV n 0) := by
    have h := Blk.newAt w 3 (Array.replicate n (.int .i64 0)) rfl
    rw [Array.toList_replicate] at h
    exact h
  have hb0 := (Below.refl w.heap.size w).alloc (Nat.le_refl _) (.cells (Array.replicate n (.int .i64 0)) 3)
  have HD := Lib.hid hd
  have HG := Lib.hid hg
  have HR := Lib.hid hr
  have HGL := Lib.hid hgl
  clear hd hg hr hgl
  go_enter Try.func48, Try.ntmps48
  go_wp2
  go_loopw [20] (fun y wr => ∃ m : Nat, m ≤ n ∧ y = .int .i64 m ∧ Blk wr w.heap.size 3 (fillV n m) ∧ Below w.heap.size w wr) (fun y _ => n - (intOf y).toNat)
  case atStart => exact ⟨0, Nat.zero_le _, rfl, hall0, hb0⟩
  case round =>
    obtain ⟨m, hm, rfl, hall, hb1⟩ := hrel
    clear hall0 hb0
    by_cases hlt : m < n
    · have hlt1 : (m : Int) < (n : Int) := by omega
      have hsome := fillV_get n m hlt
      have cm := hall.cellAt hsome
      have fm := hall.frozen m
      have hst := hall.set m (.int .i64 (m : Int))
      have hb2 := hb1.setCell (p := ⟨w.heap.size, m, none⟩) (Nat.le_refl _) (.int .i64 (m : Int))
      have hnext := fillV_set n m hlt
      rw [hnext] at hst
      have HST := Lib.hid hst
      clear hnext hst hsome
      go_wp2
      go_roundw
      case rel => exact ⟨m + 1, by omega, by go_num, HST.out, hb2⟩
      case measure => simp [intOf]; omega
    · have hge : ¬ ((m : Int) < (n : Int)) := by omega
      obtain rfl : n = m := by omega
      rw [fillV_full] at hall
      have hbw1 := hb1
      have hs1 := (hs.below (hb1.mono hB)).more (Nat.le_trans hB hb1.size)
      have hallN : Nats wr.heap.size wr (.slice (some ⟨w.heap.size, 0, none⟩) n n) (List.range n) := by
        have h := Sl.of_blk (R := RNat) (xs := List.range n) (c := n) natV (fun _ _ => rfl) hall (by simp) (by unfold maxLen; omega) hall.lt
        rwa [List.length_range] at h
      have hreach := reach_any wr.heap.size wr sa (shapeOf n E) (-1) _ (List.range n) k t hs1 (Nat.le_refl _) HG.out.shapeOk hallN (by intro x hx; simpa [shapeOf] using hx) HD.out (by omega)
      have HRE := Lib.hid hreach
      clear hreach c0 hmk hall hallN
      go_upto_region 8 with (go_at_call 58; refine HRE.out.mono ?_; rintro en w2 ⟨vr, vo2, rfl, hvr, hvo, hb2⟩)
      have hb3 := hb1.trans (hb2.mono hb1.size)
      have hs2 := (hs1.below hb2).more hb2.size
      have d1 : w2.cell? ⟨sa, 1, none⟩ = some (.int .i64 0) := (hblk.below hb3 (by omega)).cellAt rfl
      have hrev := reversed_any w2.heap.size w2 sa (shapeOf n E) 0 hs2 (Nat.le_refl _)
      have HREV := Lib.hid hrev
      obtain ⟨Ao, co, rfl, -, -, hmo, -⟩ := hvo.shape
      clear hrev hvr
      go_upto_region 9 with (go_at_call 54; refine HREV.out.mono ?_; rintro en w4 ⟨sb, rfl, hsh4, hb4⟩)
      have hb5 := hb3.trans (hb4.mono hb3.size)
      have hvo4 := (Nats.below hvo hb4).more hb4.size
      have e0 : ∀ o, (w4.alloc o).cell? ⟨sa, 0, none⟩ = some (.int .i64 (n : Int)) := fun o => ((hblk.below hb5 (by omega)).alloc o).cellAt rfl
      clear hvo d1
      go_upto_region 12 with fail
      go_wp2
      have hq0 : QS w4 (((w4.alloc (.cells #[.pointer (some ⟨sb, 0, none⟩)] 88)).alloc (.cells (Array.replicate n (.bool false)) 4)).alloc (.cells #[.slice (some ⟨w4.heap.size + 1, 0, none⟩) n n] 61))
          (((w4.alloc (.cells #[.pointer (some ⟨sb, 0, none⟩)] 88)).alloc (.cells (Array.replicate n (.bool false)) 4)).alloc (.cells #[.slice (some ⟨w4.heap.size + 1, 0, none⟩) n n] 61)).heap.size
          sb n w4.heap.size (w4.heap.size + 1) (w4.heap.size + 1 + 1) ((shapeOf n E).rev 0) (List.replicate n false) [] (.slice none 0 0) [] := by
        have hbz := (((Below.refl w4.heap.size w4).alloc (Nat.le_refl _) (.cells #[.pointer (some ⟨sb, 0, none⟩)] 88)).alloc (by simp) (.cells (Array.replicate n (.bool false)) 4)).alloc (by simp; omega) (.cells #[.slice (some ⟨w4.heap.size + 1, 0, none⟩) n n] 61)
        refine ⟨((Blk.newAt w4 88 #[.pointer (some ⟨sb, 0, none⟩)] rfl).alloc _).alloc _, Blk.newAt _ 61 #[.slice (some ⟨w4.heap.size + 1, 0, none⟩) n n] (by simp), ?_, by simp, hsh4.below hbz, World.ownsRow_nil _ _ _ _,
          ⟨rfl, fun i v l hv => by simp at hv, fun i j u v hu => by simp at hu⟩, hbz, Nat.le_refl _⟩
        have h := Blk.newAt (N := w4.heap.size + 1) (w4.alloc (.cells #[.pointer (some ⟨sb, 0, none⟩)] 88)) 4 (Array.replicate n (.bool false)) (by simp)
        rw [Array.toList_replicate] at h
        rw [List.map_replicate]
        exact h.alloc _
      have hvo5 : Nats w4.heap.size (((w4.alloc (.cells #[.pointer (some ⟨sb, 0, none⟩)] 88)).alloc (.cells (Array.replicate n (.bool false)) 4)).alloc (.cells #[.slice (some ⟨w4.heap.size + 1, 0, none⟩) n n] 61)) (.slice Ao t.2.length co) t.2 := Nats.below hvo4 hq0.bel
      have hsz5 : (((w4.alloc (.cells #[.pointer (some ⟨sb, 0, none⟩)] 88)).alloc (.cells (Array.replicate n (.bool false)) 4)).alloc (.cells #[.slice (some ⟨w4.heap.size + 1, 0, none⟩) n n] 61)).heap.size = w4.heap.size + 1 + 1 + 1 := by simp
      revert hq0 hvo5 hsz5
      generalize ((w4.alloc (.cells #[.pointer (some ⟨sb, 0, none⟩)] 88)).alloc (.cells (Array.replicate n (.bool false)) 4)).alloc (.cells #[.slice (some ⟨w4.heap.size + 1, 0, none⟩) n n] 61) = w5
      intro hq0 hvo5 hsz5
      have HS5 := Lib.hid hsz5
      clear hsz5 e0
      unfold grpsF at HR
      go_loopw [9, 10] (fun x y wr => ∃ (m : Nat) (tkl : List Bool) (gs : List (List Nat)) (vl : Value) (pvs : List Value), m ≤ t.2.length ∧ vl = x ∧ y = .int .i64 ((t.2.length : Int) - 1 - m) ∧ gs.length ≤ m ∧ foldO (grpStep ((shapeOf n E).rev 0).next k) (t.2.reverse.take m) (List.replicate n false, []) = some (tkl, gs) ∧
          QS w4 wr w5.heap.size sb n w4.heap.size (w4.heap.size + 1) (w4.heap.size + 1 + 1) ((shapeOf n E).rev 0) tkl gs vl pvs) (fun _ y _ => (intOf y + 1).toNat)
      case atStart => exact ⟨0, _, [], _, [], Nat.zero_le _, rfl, by simp, Nat.le_refl _, rfl, hq0⟩
      case round =>
        obtain ⟨m, tkl, gs, vl, pvs, hm', rfl, rfl, hgm, hf, hq⟩ := hrel
        clear hq0
        by_cases hlt' : m < t.2.length
        · have hml : m < t.2.reverse.length := by simpa using hlt'
          obtain ⟨st2, hst2, hnext⟩ := foldO_at _ _ m hml _ _ _ HR.out hf
          obtain ⟨idx, hidx⟩ : ∃ idx, idx = t.2.length - 1 - m := ⟨_, rfl⟩
          have hii : (t.2.length : Int) - 1 - m = (idx : Int) := by omega
          rw [hii]
          have hil : idx < t.2.length := by omega
          have hget : t.2.reverse[m] = t.2[idx] := by rw [List.getElem_reverse]; congr 1; omega
          rw [hget] at hst2
          obtain ⟨ad, rfl, hab, hac⟩ := Nats.at hvo4 hil
          have hgd : t.2.getD idx 0 = t.2[idx] := by rw [List.getD_eq_getElem?_getD, List.getElem?_eq_getElem hil]; rfl
          rw [hgd] at hac
          have hpn := hord _ (List.getElem_mem hil)
          clear hget hgd
          revert hac hpn hst2
          generalize t.2[idx] = p
          intro hst2 hac hpn
          have HII := Lib.hid hii
          have hidx1 : (idx : Int) < (t.2.length : Int) := by omega
          have hac' := (hq.bel.cell (p := ad.add idx) (by rw [block_add]; exact hab)).trans hac
          have ctv := hq.tv.cellAt (i := 0) rfl
          have hpn1 : (p : Int) < (n : Int) := by omega
          have ctk : wr.cell? ⟨w4.heap.size + 1, p, none⟩ = some (.bool (tkl.getD p false)) := hq.tk.cellAt (by rw [List.getElem?_map, List.getD_eq_getElem?_getD, List.getElem?_eq_getElem (by rw [hq.len]; exact hpn)]; rfl)
          unfold grpStep at hst2
          have HST := Lib.hid hst2
          have HNX := Lib.hid hnext
          clear hst2 hnext hf hac hii hidx hvo5
          have hEnd : ∀ (wz : World) (vz : Value) (pz : List Value), st2.2.length ≤ m + 1 → QS w4 wz w5.heap.size sb n w4.heap.size (w4.heap.size + 1) (w4.heap.size + 1 + 1) ((shapeOf n E).rev 0) st2.1 st2.2 vz pz →
              (∃ (m_1 : Nat) (tkl : List Bool) (gs : List (List Nat)) (vl : Value) (pvs : List Value), m_1 ≤ t.2.length ∧ vl = vz ∧ Value.int .i64 ((idx : Int) - 1) = .int .i64 ((t.2.length : Int) - 1 - m_1) ∧ gs.length ≤ m_1 ∧ foldO (grpStep ((shapeOf n E).rev 0).next k) (t.2.reverse.take m_1) (List.replicate n false, []) = some (tkl, gs) ∧
                QS w4 wz w5.heap.size sb n w4.heap.size (w4.heap.size + 1) (w4.heap.size + 1 + 1) ((shapeOf n E).rev 0) tkl gs vl pvs) := by
            intro wz vz pz h1 h2
            exact ⟨m + 1, st2.1, st2.2, vz, pz, by omega, rfl, by rw [← HII.out]; congr 1; omega, h1, HNX.out, h2⟩
          have HEN := Lib.hid hEnd
          clear hEnd
          by_cases htk : tkl.getD p false = true
          · have hst := HST.out
            rw [if_pos htk] at hst
            obtain rfl : (tkl, gs) = st2 := Option.some.inj hst
            rw [htk] at ctk
            clear hst htk
            go_wp2
            go_quiet (fail)
            go_wp2
            case roundEnd =>
              refine ⟨HEN.out _ _ pvs (by show gs.length ≤ m + 1; omega) (hq.drewN nq), ?_⟩
              simp [intOf]
          · have hst := HST.out
            rw [if_neg htk] at hst
            obtain ⟨tg, htg, rfl⟩ := Option.map_eq_some_iff.1 hst
            have htk' : tkl.getD p false = false := by simpa using htk
            rw [htk'] at ctk
            have HTG := Lib.hid htg
            clear hst htk htk' htg
            go_wp2
            go_quiet (fail)
            have hq2 := hq.drewN nq
            have hac2 : (wr.drewN nq).cell? (ad.add idx) = some (.int .i64 (p : Int)) := hac'
            revert hq2 hac2
            generalize wr.drewN nq = wq
            intro hq2 hac2
            clear hq hac' ctv ctk
            go_upto_region 18 with fail
            obtain ⟨e, he⟩ : ∃ e : GEnv, e = { n₀ := w4.heap.size, sa := sb, s := (shapeOf n E).rev 0, sv := w4.heap.size + 1 + 1, ss := w4.heap.size, vv := wq.heap.size + 1, ov := wq.heap.size, sr := w4.heap.size + 1, base := wq.heap.size + 1 + 1 } := ⟨_, rfl⟩
            have hwq : w4.heap.size + 1 + 1 + 1 ≤ wq.heap.size := by have := hq2.hb; have := HS5.out; omega
            have hok : e.Ok := by
              have h1 := HG.out.shapeOkRev 0
              rw [he]
              exact ⟨⟨by simp only; omega, by simp only; omega⟩, ⟨by simp only; omega, by simp only; omega⟩, ⟨by simp only; omega, by simp only; omega⟩, ⟨by simp only; omega, by simp only; omega⟩, ⟨by simp only; omega, by simp only; omega⟩, h1.hn, h1.hto, h1.htn, h1.hsz⟩
            have hb9 : Below wq.heap.size wq ((wq.alloc (.cells #[.slice none 0 0] 27)).alloc (.cells #[.func (.func 69) #[] #[.pointer (some ⟨w4.heap.size + 1 + 1, 0, none⟩), .pointer (some ⟨wq.heap.size, 0, none⟩), .pointer (some ⟨w4.heap.size, 0, none⟩), .pointer (some ⟨wq.heap.size + 1, 0, none⟩)]] 115)) := ((Below.refl _ wq).alloc (Nat.le_refl _) _).alloc (by simp) _
            have hGS : GS e ((wq.alloc (.cells #[.slice none 0 0] 27)).alloc (.cells #[.func (.func 69) #[] #[.pointer (some ⟨w4.heap.size + 1 + 1, 0, none⟩), .pointer (some ⟨wq.heap.size, 0, none⟩), .pointer (some ⟨w4.heap.size, 0, none⟩), .pointer (some ⟨wq.heap.size + 1, 0, none⟩)]] 115)) tkl [] (.slice none 0 0) := by
              rw [he]
              refine ⟨(hq2.sh.below (hb9.mono (by omega))), hq2.tv.below hb9 hq2.tv.lt, hq2.tk.below hb9 hq2.tk.lt, hq2.len, hq2.x.below hb9 hq2.x.lt, Blk.newAt _ _ _ (by simp), (Blk.newAt wq 27 #[.slice none 0 0] rfl).alloc _, World.ownsRow_nil _ _ _ _⟩
            have hbase9 : e.base ≤ (((wq.alloc (.cells #[.slice none 0 0] 27)).alloc (.cells #[.func (.func 69) #[] #[.pointer (some ⟨w4.heap.size + 1 + 1, 0, none⟩), .pointer (some ⟨wq.heap.size, 0, none⟩), .pointer (some ⟨w4.heap.size, 0, none⟩), .pointer (some ⟨wq.heap.size + 1, 0, none⟩)]] 115))).heap.size := by rw [he]; simp
            have e12 : (((wq.alloc (.cells #[.slice none 0 0] 27)).alloc (.cells #[.func (.func 69) #[] #[.pointer (some ⟨w4.heap.size + 1 + 1, 0, none⟩), .pointer (some ⟨wq.heap.size, 0, none⟩), .pointer (some ⟨w4.heap.size, 0, none⟩), .pointer (some ⟨wq.heap.size + 1, 0, none⟩)]] 115))).cell? ⟨wq.heap.size + 1, 0, none⟩ = some (.func (.func 69) #[] #[.pointer (some ⟨w4.heap.size + 1 + 1, 0, none⟩), .pointer (some ⟨wq.heap.size, 0, none⟩), .pointer (some ⟨w4.heap.size, 0, none⟩), .pointer (some ⟨wq.heap.size + 1, 0, none⟩)]) := by
              have h := hGS.vv.cellAt (i := 0) rfl
              rw [he] at h
              exact h
            have hac9 := (hb9.cell (p := ad.add idx) (by rw [block_add]; omega)).trans hac2
            revert hb9 hGS hbase9 e12 hac9
            generalize ((wq.alloc (.cells #[.slice none 0 0] 27)).alloc (.cells #[.func (.func 69) #[] #[.pointer (some ⟨w4.heap.size + 1 + 1, 0, none⟩), .pointer (some ⟨wq.heap.size, 0, none⟩), .pointer (some ⟨w4.heap.size, 0, none⟩), .pointer (some ⟨wq.heap.size + 1, 0, none⟩)]] 115)) = W9
            intro hb9 hGS hbase9 e12 hac9
            have hgrp := grp_any e hok k W9.drew tkl [] (.slice none 0 0) p tg (hGS.drewN 1) (by rw [he]; exact hpn) hbase9 (by rw [he]; exact HTG.out) (HGL.out _ _ _ hq2.len HTG.out)
            rw [he] at hgrp
            have HGRP := Lib.hid hgrp
            clear hgrp
            go_still_tail 5, (by kernel_rfl)
            change wpList _ _ _ _ _ W9.drew
            have hgl2 := HGL.out _ _ _ hq2.len HTG.out
            go_upto_region 20 with (first
              | (go_at_call 69; refine HGRP.out.mono ?_; rintro en w10 ⟨rfl, vg, hg10, ho10, hrow10⟩; have cg : w10.cell? ⟨wq.heap.size, 0, none⟩ = some vg := hg10.ov.cellAt (i := 0) rfl)
              | (go_at_call 44; refine (sort_own _ _ _ _ hg10.row hgl2).mono ?_; rintro en w11 ⟨rfl, hso, hgs⟩))
            have hvgb : ∀ b, vg.ownBlock = some b → wq.heap.size + 1 + 1 ≤ b := fun b hb => (hg10.row.lt b hb).1
            have keep11 : ∀ {g : Nat} {ty : TypeId} {cs : List Value}, Blk w10 g ty cs → ty ≠ 3 → Blk w11 g ty cs := fun hb hne => hb.same (hgs.block _ hb.lt (fun e' => own_typed hg10.row hb hne e'.symm))
            have h10w : wq.heap.size + 1 + 1 ≤ w10.heap.size := by have h1 := ho10.size; have h2 := hbase9; rw [he] at h2; exact Nat.le_trans h2 h1
            have hx11 : Blk w11 w4.heap.size 88 [.pointer (some ⟨sb, 0, none⟩)] := keep11 hg10.ss (by decide)
            have htv11 : Blk w11 (w4.heap.size + 1 + 1) 61 [.slice (some ⟨w4.heap.size + 1, 0, none⟩) n n] := keep11 hg10.sv (by decide)
            have htk11 : Blk w11 (w4.heap.size + 1) 4 (tg.1.map Value.bool) := keep11 hg10.sr (by decide)
            have hov11 : Blk w11 wq.heap.size 27 [vg] := keep11 hg10.ov (by decide)
            have hlen11 : tg.1.length = n := hg10.len
            have hbel10 : Below w4.heap.size wq w10 := (hb9.mono (by omega)).trans (Below.trans (Below.drew (Below.refl _ W9)) (ho10.below (by show w4.heap.size ≤ W9.heap.size; have := hb9.size; omega) (fun b hb hS => by
              rcases hS with hS | hS | hS
              · have : b = w4.heap.size + 1 := hS; omega
              · have : b = wq.heap.size := hS; omega
              · cases hS)))
            have hbel11 : Below w4.heap.size wq w11 := hbel10.grown hgs (by omega) (fun b hb => by have := hvgb b hb; omega)
            have hsh11 := hq2.sh.below hbel11
            have hnS : ∀ {ty : TypeId} {nn : Nat} {u : Value} {xs : List Value} {bs : Nat}, wq.ownsRow bs ty 1 u nn xs → 4 ≠ ty → ∀ b, u.ownBlock = some b → ¬ GW e (.slice none 0 0) b := fun ho hne b hb hS => by
              rcases hS with hS | hS | hS
              · rw [he] at hS; have : b = w4.heap.size + 1 := hS; subst this; exact own_typed ho hq2.tk hne hb
              · rw [he] at hS; have : b = wq.heap.size := hS; have := (ho.lt b hb).2; omega
              · cases hS
            have ho10' : Only (GW e (.slice none 0 0)) W9.drew w10 := by rw [he]; exact ho10
            have hfam10 : Fam 3 w10 w5.heap.size pvs gs := (hq2.fam.below hb9).drew.onlyOf ho10' (fun v hv => by
              obtain ⟨i, hi⟩ := List.mem_iff_getElem?.1 hv
              obtain ⟨l, _, ho⟩ := hq2.fam.get hi
              exact hnS ho (by decide))
            have hpvlt : ∀ u ∈ pvs, ∀ b, u.ownBlock = some b → b < wq.heap.size + 1 + 1 := fun u hu b hb => by
              obtain ⟨i, hi⟩ := List.mem_iff_getElem?.1 hu
              have := (hq2.fam.lt hi hb).2
              omega
            have hfam11 : Fam 3 w11 w5.heap.size pvs gs := hfam10.grown hgs (fun b hb u hu hub => by have := hvgb b hb; have := hpvlt u hu b hub; omega)
            have hown10 := own_only (own_below hq2.own hb9 : W9.ownsRow w5.heap.size 27 1 vl gs.length pvs).drew ho10' (hnS hq2.own (by decide))
            have hown11 := hown10.kept hgs (by
              cases hv : vl.ownBlock with
              | none => exact .inl rfl
              | some b =>
                right
                intro he'
                have := hvgb b he'.symm
                have := (hq2.own.lt b hv).2
                omega)
            have hso2 : w11.ownsRow (wq.heap.size + 1 + 1) 3 1 vg (sortN tg.2).length ((sortN tg.2).map natV) := by rw [sortN_length]; exact hso
            have hsnoc := hfam11.snoc (fam_single hso2) (by have := hq2.hb; omega) hpvlt
            obtain ⟨Ag, cgp, rfl⟩ := own_slice hso
            have cg11 := hov11.cellAt (i := 0) rfl
            have hb11 : w5.heap.size ≤ w11.heap.size := by have := hq2.hb; have := hgs.size; omega
            obtain ⟨iv, hiv, hz0, hz1, hz2⟩ := info_parts info_ints
            have hownA := hown11.alloc (.cells #[.slice Ag tg.2.length cgp] 27)
            have hnb := Blk.newAt w11 27 #[.slice Ag tg.2.length cgp] rfl
            have hfsA := hsnoc.alloc (.cells #[.slice Ag tg.2.length cgp] 27)
            have hxA := hx11.alloc (.cells #[.slice Ag tg.2.length cgp] 27)
            have htvA := htv11.alloc (.cells #[.slice Ag tg.2.length cgp] 27)
            have htkA := htk11.alloc (.cells #[.slice Ag tg.2.length cgp] 27)
            have hbA : Below w4.heap.size wq (w11.alloc (.cells #[.slice Ag tg.2.length cgp] 27)) := hbel11.alloc (by have := hgs.size; omega) _
            have hgsm : gs.length ≤ 200000 := by omega
            have hbsA : w5.heap.size ≤ (w11.alloc (.cells #[.slice Ag tg.2.length cgp] 27)).heap.size := by rw [World.size_alloc]; omega
            go_wp2_with (at_builtin; refine wpList_append_lies _ rfl (.tmp 68) (.tmp 70) 70 rfl w5.heap.size 27 iv (.slice none 0 0) 1 24 Try.underlying70 hiv hz0 hz1 hz2 rfl (by decide) vl gs.length pvs rfl hownA ⟨w11.heap.size, 0, none⟩ 1 1 [.slice Ag tg.2.length cgp] rfl rfl (fun q u hq => by rw [add_none]; exact hnb.cellAt hq) ?c2 (by decide) ?c3 ?c4 hbsA _ rfl ?_)
            case c2 => rfl
            case c3 => unfold maxLen; omega
            case c4 => omega
            intro g c' wz hown hgr _ _
            have keepZ : ∀ {gb : Nat} {ty : TypeId} {cs : List Value}, Blk (w11.alloc (.cells #[.slice Ag tg.2.length cgp] 27)) gb ty cs → ty ≠ 27 → Blk wz gb ty cs := fun hb hne => hb.same (hgr.block _ hb.lt (fun e' => own_typed hownA hb hne e'.symm))
            have hvlb : ∀ b, vl.ownBlock = some b → w5.heap.size ≤ b := fun b hb => (hownA.lt b hb).1
            have hbelZ : Below w4.heap.size wq wz := hbA.grown hgr (by rw [World.size_alloc]; have := hgs.size; omega) (fun b hb => by have := hvlb b hb; have := HS5.out; omega)
            have hfamZ := hfsA.grown hgr (fun b hb u hu hub => by
              obtain ⟨i, hi⟩ := List.mem_iff_getElem?.1 hu
              obtain ⟨l, _, ho⟩ := hfsA.get hi
              rcases own_types ho hownA (by decide) with h | h
              · rw [h] at hub; cases hub
              · exact h (hub.trans hb.symm))
            have hqz : QS w4 wz w5.heap.size sb n w4.heap.size (w4.heap.size + 1) (w4.heap.size + 1 + 1) ((shapeOf n E).rev 0) tg.1 (gs ++ [sortN tg.2]) (.slice (some ⟨g, 0, none⟩) (gs.length + 1) c') (pvs ++ [.slice Ag tg.2.length cgp]) :=
              ⟨keepZ hxA (by decide), keepZ htvA (by decide), keepZ htkA (by decide), hlen11, hq2.sh.below hbelZ, by rw [List.length_append, List.length_singleton]; exact hown, hfamZ, hq2.bel.trans hbelZ, Nat.le_trans hbsA hgr.size⟩
            have HQZ := Lib.hid hqz
            clear hown hfamZ hqz
            go_wp2
            go_roundw
            case rel => exact HEN.out _ _ _ (by simp; omega) HQZ.out
            case measure => simp [intOf]
        · have hge' : (t.2.length : Int) - 1 - m < 0 := by omega
          obtain rfl : t.2.length = m := by omega
          rw [List.take_of_length_le (by simp), HR.out] at hf
          obtain rfl : r = (tkl, gs) := Option.some.inj hf
          clear hf
          have hsg := sortG_own wr w5.heap.size w5.heap.size vl gs pvs hq.own hq.fam hrn hr0 (by omega)
          have HSG := Lib.hid hsg
          have hvlb : ∀ b, vl.ownBlock = some b → w5.heap.size ≤ b := fun b hb => (hq.own.lt b hb).1
          have hS5 := HS5.out
          have hqs := hq.hb
          have hqb := hq.bel
          have HL := Lib.hid (sortG_length gs)
          clear hsg
          go_wp2_with (go_at_call 70; refine HSG.out.mono ?_; rintro en w9 ⟨rfl, pz, hoz, hfz, hgz⟩)
          go_ret
          refine ⟨_, rfl, natss_of (by rw [HL.out]; exact hoz) hfz, ?_⟩
          have h1 : Below w4.heap.size w4 w9 := hqb.grown hgz (by omega) (fun b hb => by have := hvlb b hb; omega)
          exact hb5.trans (h1.mono hb5.size)

#print axioms groups_any

end Go.Proofs.Ytngfoinceakgdaa
