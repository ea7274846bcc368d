/- Package graph: dominators. -/
import Derived.Test.YtngfoinceakgdaaMeet
import Derived.Test.YtngfoinceakgdaaReach
import Derived.Test.YtngfoinceakgdaaRepeat
import Derived.Test.YtngfoinceakgdaaOut
namespace Go.Proofs.Ytngfoinceakgdaa
open Go.RowKit Go.Shelf

/-- The captured variables, and what was there before them. -/
structure DE (w1 w : World) (pv pb av ab n : Nat) (pl al : List Int) : Prop where
  env : MeetEnv w pv pb av ab n pl al
  bel : Below w1.heap.size w1 w
  hv : w1.heap.size ≤ pv
  hb : w1.heap.size ≤ pb
  hav : w1.heap.size ≤ av
  hab : w1.heap.size ≤ ab
  ne : pb ≠ ab

theorem DE.set {w1 w : World} {pv pb av ab n : Nat} {pl al : List Int} (h : DE w1 w pv pb av ab n pl al) (p : Nat) (b : Int) (hb : b < n) : DE w1 (w.setCell ⟨ab, p, none⟩ (.int .i64 b)) pv pb av ab n pl (al.set p b) := by
  refine ⟨⟨h.env.pv.far (h.env.pv.ne h.env.ab (by decide)) _, h.env.av.far (h.env.av.ne h.env.ab (by decide)) _, h.env.pb.far h.ne _, ?_, h.env.hp, by simp [h.env.ha], fun x => ?_⟩, h.bel.setCell h.hab _, h.hv, h.hb, h.hav, h.hab, h.ne⟩
  · have := h.env.ab.set p (.int .i64 b)
    rw [List.map_set]
    exact this
  · rw [getI_set]
    split
    · exact hb
    · exact h.env.alt x
theorem DE.only {w1 w w' : World} {pv pb av ab n : Nat} {pl al : List Int} (h : DE w1 w pv pb av ab n pl al) (ho : Only (fun _ => False) w w') : DE w1 w' pv pb av ab n pl al :=
  ⟨h.env.only ho, h.bel.trans (ho.below h.bel.size (fun _ _ h => h)), h.hv, h.hb, h.hav, h.hab, h.ne⟩
theorem DE.drew {w1 w : World} {pv pb av ab n : Nat} {pl al : List Int} (h : DE w1 w pv pb av ab n pl al) : DE w1 w.drew pv pb av ab n pl al := h.only (Only.drew (Only.refl _ _))

set_option maxRecDepth 100000 in
set_option maxHeartbeats 4000000 in
theorem dominators_any (B : Nat) (w : World) (sa : Nat) (s : Shp) (hs : IsShape B w sa s) (hB : B ≤ w.heap.size) (hok : s.Ok) (hin : s.OkIn) (hn : s.n ≤ 1000) (k j : Nat) (t : List Bool × List Nat) (res : List Int)
    (hd : foldO (dfsV s.next (-1) k) [s.entry] (List.replicate s.n false, []) = some t) (hlen : t.2.length ≤ 100000) (hord : ∀ x ∈ t.2, x < s.n) (hres : domF s k j t.2 = some res) :
    Calls Try.prog 52 #[.pointer (some ⟨sa, 0, none⟩)] w fun en w' => ∃ v, en = .returned v ∧ Ints w'.heap.size w' v res ∧ Below w.heap.size w w' := by
  obtain ⟨hsa, vf, vt, vo, vi, hblk, hnf, -, -, hni⟩ := id hs
  obtain ⟨Af, cf, rfl, hlf, -, hmf, haf⟩ := hnf.shape
  obtain ⟨Ai, ci, rfl, hli, -, hmi, hai⟩ := Sl.shape hni
  have c0 := hblk.cellAt (i := 0) rfl
  have c1 := hblk.cellAt (i := 1) rfl
  have hreach := reach_any (w.alloc (.cells #[.int .i64 (s.entry : Int)] 3)).heap.size _ sa s (-1) (.slice (some ⟨w.heap.size, 0, none⟩) 1 1) [s.entry] k t ((hs.below ((Below.refl _ w).alloc hB _)).more (by rw [World.size_alloc]; omega)) (Nat.le_refl _) hok
      (nats_one w s.entry) (by simpa using hin.hent) hd (by omega)
  go_enter Try.func52, Try.ntmps52
  go_upto_region 2 with (go_at_call 58; refine hreach.mono ?_; rintro en w1 ⟨vr, vo, rfl, hvr, hvo, hb1⟩)
  have hb2 : Below w.heap.size w w1 := ((Below.refl _ w).alloc (Nat.le_refl _) _).trans (hb1.mono (by rw [World.size_alloc]; omega))
  have hw1 : w.heap.size < w1.heap.size := by have := hb1.size; rw [World.size_alloc] at this; omega
  have hs1 := (hs.below (hb2.mono hB)).more (Nat.le_trans hB (Nat.le_of_lt hw1))
  have hn1 : 1 ≤ s.n := by have := hin.hent; omega
  have c10 : ∀ o, (w1.alloc o).cell? ⟨sa, 0, none⟩ = some (.int .i64 (s.n : Int)) := fun o => ((hblk.below hb2 (by omega)).alloc o).cellAt rfl
  clear hreach hd c0 c1 hb1
  go_upto_region 3 with (go_at_call 49; refine (repeat_any _ _ (-1) s.n hn1 hn (Blk.new _ _ _)).mono ?_; rintro en w2 ⟨g, rfl, hg, hgs, hb3⟩)
  obtain ⟨Ao, co, rfl, hlo, -, hmo, hao⟩ := hvo.shape
  have hpv := Blk.newAt w2 27 #[.slice (some ⟨g, 0, none⟩) s.n s.n] rfl
  have hpb : Blk (w2.alloc (.cells #[.slice (some ⟨g, 0, none⟩) s.n s.n] 27)) g 3 ((placesOf s.n (t.2.take 0)).map intV) := by
    have h := hg.alloc (.cells #[.slice (some ⟨g, 0, none⟩) s.n s.n] 27)
    rw [show (placesOf s.n (t.2.take 0)).map intV = List.replicate s.n (.int .i64 (-1)) by simp [placesOf, intV]]
    exact h
  have hb4 : Below w1.heap.size w1 (w2.alloc (.cells #[.slice (some ⟨g, 0, none⟩) s.n s.n] 27)) := by
    have h1 := (Below.refl w1.heap.size w1).alloc (Nat.le_refl _) (.cells #[.int .i64 (-1)] 3)
    have h2 := h1.trans (hb3.mono h1.size)
    exact h2.alloc h2.size _
  have hgw : w1.heap.size ≤ g := by rw [World.size_alloc] at hgs; omega
  have hpw : w1.heap.size ≤ w2.heap.size := by have := hb3.size; rw [World.size_alloc] at this; omega
  revert hpv hpb hb4 hpw
  generalize w2.alloc (.cells #[.slice (some ⟨g, 0, none⟩) s.n s.n] 27) = w3
  generalize w2.heap.size = pv
  intro hpv hpb hb4 hpw
  have HA := Lib.hid hao
  clear hg hgs hb3 c10 hao
  go_wp2
  go_loopw [35] (fun i wr => ∃ m : Nat, m ≤ t.2.length ∧ i = .int .i64 m ∧ Blk wr pv 27 [.slice (some ⟨g, 0, none⟩) s.n s.n] ∧ Blk wr g 3 ((placesOf s.n (t.2.take m)).map intV) ∧ Below w1.heap.size w1 wr) (fun i _ => t.2.length - (intOf i).toNat)
  case atStart => exact ⟨0, Nat.zero_le _, rfl, hpv, hpb, hb4⟩
  case round =>
    obtain ⟨m, hm, rfl, hpv', hpb', hb4'⟩ := hrel
    clear hpv hpb hb4
    by_cases hlt : m < t.2.length
    · obtain ⟨ad, u, rfl, hab, hac, hau⟩ := HA.out m _ (List.getElem?_eq_getElem hlt)
      have hxn := hord _ (List.getElem_mem hlt)
      have hsucc := placesOf_succ s.n t.2 m hlt
      have hpl := placesOf_length s.n (t.2.take m)
      revert hau hxn hsucc
      generalize t.2[m] = x
      intro hau hxn hsucc
      obtain rfl : u = .int .i64 (x : Int) := hau
      have hac' := (hb4'.cell (p := ad.add m) (by rw [block_add]; exact hab)).trans hac
      have hx1 : (x : Int) < (s.n : Int) := by omega
      have cp := hpv'.cellAt (i := 0) rfl
      have cx := getI_cell hpb' (p := x) (by omega)
      have fx := hpb'.frozen x
      have hst := hpb'.set x (.int .i64 (m : Int))
      have hpv2 := hpv'.far (p := ⟨g, x, none⟩) (hpv'.ne hpb' (by decide)) (.int .i64 (m : Int))
      have hb5 := hb4'.setCell (p := ⟨g, x, none⟩) hgw (.int .i64 (m : Int))
      have HS := Lib.hid hst
      have HU := Lib.hid hsucc
      clear hac hst hsucc hpl
      go_wp2
      go_roundw
      case rel =>
        refine ⟨m + 1, by omega, by go_num, hpv2, ?_, hb5⟩
        rw [HU.out, List.map_set]
        exact HS.out
      case measure => simp [intOf]; omega
    · obtain rfl : m = t.2.length := by omega
      rw [List.take_length] at hpb'
      have hbw := hb2.trans (hb4'.mono (Nat.le_of_lt hw1))
      have hblk3 := hblk.below hbw (by omega)
      have hBr : w1.heap.size ≤ wr.heap.size := hb4'.size
      have c20 : ∀ o, (wr.alloc o).cell? ⟨sa, 0, none⟩ = some (.int .i64 (s.n : Int)) := fun o => (hblk3.alloc o).cellAt rfl
      go_upto_region 9 with (go_at_call 49; refine (repeat_any _ _ (-1) s.n hn1 hn (Blk.new _ _ _)).mono ?_; rintro en w4 ⟨g2, rfl, hg2, hg2s, hb5⟩)
      have hav := Blk.newAt w4 27 #[.slice (some ⟨g2, 0, none⟩) s.n s.n] rfl
      have hg2' := hg2.alloc (.cells #[.slice (some ⟨g2, 0, none⟩) s.n s.n] 27)
      have hb6 : Below wr.heap.size wr (w4.alloc (.cells #[.slice (some ⟨g2, 0, none⟩) s.n s.n] 27)) := by
        have h1 := (Below.refl wr.heap.size wr).alloc (Nat.le_refl _) (.cells #[.int .i64 (-1)] 3)
        have h2 := h1.trans (hb5.mono h1.size)
        exact h2.alloc h2.size _
      have hpv6 := hpv'.below hb6 hpv'.lt
      have hpb6 := hpb'.below hb6 hpb'.lt
      have hb7 := hb4'.trans (hb6.mono hBr)
      have hgw2 : w1.heap.size ≤ g2 := by rw [World.size_alloc] at hg2s; omega
      have hgne : g ≠ g2 := by have := hpb'.lt; rw [World.size_alloc] at hg2s; omega
      have hvne : pv ≠ w4.heap.size := by have := hpv'.lt; have := hb5.size; rw [World.size_alloc] at this; omega
      have hvw : w1.heap.size ≤ w4.heap.size := by have := hb5.size; rw [World.size_alloc] at this; omega
      revert hav hg2' hpv6 hpb6 hb7 hvne hvw
      generalize w4.alloc (.cells #[.slice (some ⟨g2, 0, none⟩) s.n s.n] 27) = w5
      generalize w4.heap.size = av
      intro hav hg2' hpv6 hpb6 hb7 hvne hvw
      clear hg2 hg2s hb5 hb6 c20 hblk3 hbw hb4' hpv' hpb' hBr
      have hbw := hb2.trans (hb7.mono (Nat.le_of_lt hw1))
      have s1 := (hblk.below hbw (by omega)).cellAt (i := 1) rfl
      have ca := hav.cellAt (i := 0) rfl
      have hen : (s.entry : Int) < (s.n : Int) := by have := hin.hent; omega
      have ce : w5.cell? ⟨g2, s.entry, none⟩ = some (.int .i64 (-1)) := hg2'.cellAt (by rw [List.getElem?_replicate, if_pos hin.hent])
      have fe := hg2'.frozen s.entry
      have hmf : ∀ (fn : Fn) (first cap : Array Value) (w : World), (Instr.makeFunc fn first cap).run Try.prog w = .ok (.func fn first cap) w := fun _ _ _ _ => rfl
      go_still_tail 10, (by kernel_rfl)
      change wpList _ _ _ _ _ w5.drew
      go_wp2
      obtain ⟨fin, hfin, rfl⟩ : ∃ fin, domLoop s (placesOf s.n t.2) k t.2 j ((List.replicate s.n (-1)).set s.entry (s.entry : Int)) = some fin ∧ fin.set s.entry (-1) = res := by
        unfold domF at hres
        cases hx : domLoop s (placesOf s.n t.2) k t.2 j ((List.replicate s.n (-1)).set s.entry (s.entry : Int)) with
        | none => rw [hx] at hres; cases hres
        | some u => rw [hx] at hres; exact ⟨u, rfl, by simpa using hres⟩
      have hde : DE w1 (w5.setCell ⟨g2, s.entry, none⟩ (.int .i64 (s.entry : Int))).drew pv g av g2 s.n (placesOf s.n t.2) ((List.replicate s.n (-1)).set s.entry (s.entry : Int)) := by
        refine (DE.set (al := List.replicate s.n (-1)) ⟨⟨hpv6, hav, hpb6, by rw [List.map_replicate]; exact hg2', placesOf_length _ _, by simp, fun p => ?_⟩, hb7, hpw, hgw, hvw, hgw2, hgne⟩ s.entry _ hen).drew
        unfold getI
        rw [List.getD_eq_getElem?_getD, List.getElem?_replicate]
        split <;> simp <;> omega
      revert hde
      generalize (w5.setCell ⟨g2, s.entry, none⟩ (.int .i64 (s.entry : Int))).drew = w6
      intro hde
      have HI := Lib.hid hai
      have HF := Lib.hid haf
      have HO := Lib.hid hord
      have HIN := Lib.hid hin
      clear s1 ca ce fe hmf hbw hav hg2' hpv6 hpb6 hb7 hres hai haf hord hin
      go_loopg [10] j (fun j' c wr => ∃ (b : Bool) (al : List Int), c = .bool b ∧ DE w1 wr pv g av g2 s.n (placesOf s.n t.2) al ∧ (b = true → domLoop s (placesOf s.n t.2) k t.2 j' al = some fin) ∧ (b = false → al = fin))
      case atStart => exact ⟨true, _, rfl, hde, fun _ => hfin, fun h => by cases h⟩
      case round =>
        obtain ⟨b, al, rfl, hd1, ht, hf⟩ := hrel
        clear hde hfin
        cases b with
        | false =>
          obtain rfl := hf rfl
          have hbw := hb2.trans (hd1.bel.mono (Nat.le_of_lt hw1))
          have s1 := (hblk.below hbw (by omega)).cellAt (i := 1) rfl
          have ca := hd1.env.av.cellAt (i := 0) rfl
          have ce := getI_cell hd1.env.ab (p := s.entry) (by rw [hd1.env.ha]; exact HIN.out.hent)
          have fe := hd1.env.ab.frozen s.entry
          have hd2 := hd1.set s.entry (-1) (by omega)
          have ca2 := hd2.env.av.cellAt (i := 0) rfl
          go_wp2
          go_still_tail 6, (by kernel_rfl)
          change wpList _ _ _ _ _ wr.drew
          go_wp2
          go_ret
          refine ⟨_, rfl, ?_, (hb2.trans (hd2.bel.mono (Nat.le_of_lt hw1))).drew⟩
          have h := Sl.of_blk (R := RInt) (c := s.n) intV (fun _ _ => rfl) hd2.env.ab (Nat.le_of_eq hd2.env.ha) (by unfold maxLen; omega) hd2.env.ab.lt
          rw [hd2.env.ha] at h
          exact h
        | true =>
          cases gk with
          | zero => cases ht rfl
          | succ j' =>
            have ht' := ht rfl
            clear ht hf
            simp only [domLoop] at ht'
            obtain ⟨⟨al', ch⟩, hsw, hnext⟩ : ∃ st, domSweep s (placesOf s.n t.2) k t.2 al = some st ∧ (if st.2 then domLoop s (placesOf s.n t.2) k t.2 j' st.1 else some st.1) = some fin := by
              cases hx : domSweep s (placesOf s.n t.2) k t.2 al with
              | none => rw [hx] at ht'; cases ht'
              | some u => rw [hx] at ht'; exact ⟨u, rfl, ht'⟩
            have hlr : t.2.dropLast.reverse.length = t.2.length - 1 := by simp
            unfold domSweep at hsw
            clear ht'
            have HN := Lib.hid hnext
            have HSW := Lib.hid hsw
            clear hnext hsw
            have hlen0 : (0 : Int) ≤ (t.2.length : Int) := by omega
            go_upto_region 15 with fail
            go_wp2
            have hd1r := hd1
            clear hd1
            go_loopw [10, 11] (fun c i wr3 => ∃ (m : Nat) (ch3 : Bool) (al3 : List Int), m ≤ t.2.length - 1 ∧ c = .bool ch3 ∧ i = .int .i64 ((t.2.length : Int) - 2 - m) ∧ foldO (domStep s (placesOf s.n t.2) k) (t.2.dropLast.reverse.take m) (al, false) = some (al3, ch3) ∧ DE w1 wr3 pv g av g2 s.n (placesOf s.n t.2) al3)
              (fun _ i _ => (intOf i + 1).toNat)
            case atStart => exact ⟨0, false, al, Nat.zero_le _, rfl, by simp, rfl, hd1r⟩
            case round =>
              obtain ⟨m, ch3, al3, hm, rfl, rfl, hf3, hd3⟩ := hrel
              clear hd1r
              by_cases hlt : m < t.2.length - 1
              · obtain ⟨hix, hget⟩ := rev_get t.2 m (by omega)
                obtain ⟨v3, hv3, hnext3⟩ := foldO_at _ _ m (by omega) _ _ _ HSW.out hf3
                rw [hget] at hv3
                obtain ⟨idx, hidx⟩ : ∃ idx, idx = t.2.length - 2 - m := ⟨_, rfl⟩
                have hii : (t.2.length : Int) - 2 - m = (idx : Int) := by omega
                rw [hii]
                have hpget : t.2[idx]? = some t.2[t.2.length - 2 - m] := by rw [hidx]; exact List.getElem?_eq_getElem hix
                have hpn := HO.out _ (List.getElem_mem hix)
                revert hv3 hpget hpn
                generalize t.2[t.2.length - 2 - m] = p
                intro hv3 hpget hpn
                obtain ⟨ad, u, rfl, hab, hac, hau⟩ := HA.out idx _ hpget
                obtain rfl : u = .int .i64 (p : Int) := hau
                have hac' := (hd3.bel.cell (p := ad.add idx) (by rw [block_add]; exact hab)).trans hac
                have hidx1 : (idx : Int) < (t.2.length : Int) := by omega
                have HIX := Lib.hid hidx
                have HII := Lib.hid hii
                clear hidx hii
                have hbw := hb2.trans (hd3.bel.mono (Nat.le_of_lt hw1))
                have s5 := (hblk.below hbw (by omega)).cellAt (i := 5) rfl
                have hpi : p < s.inn.length := by rw [HIN.out.hi]; exact hpn
                obtain ⟨es, hes⟩ : ∃ es, s.inn[p]? = some es := ⟨_, List.getElem?_eq_getElem hpi⟩
                obtain ⟨adi, ui, rfl, hbi, hci, hri⟩ := HI.out p es hes
                have hci' := (hbw.cell (p := adi.add p) (by rw [block_add]; omega)).trans hci
                obtain ⟨Ae, ce, rfl, hle, -, hme, hae⟩ := Sl.shape hri
                have hpi1 : (p : Int) < (s.inn.length : Int) := by omega
                have hqs : s.preds p = es.map fun e => s.sr.getD e 0 := by unfold Shp.preds; rw [List.getD_eq_getElem?_getD, hes]; rfl
                unfold domStep at hv3
                rw [hqs] at hv3
                obtain ⟨bf, hbf, rfl⟩ := Option.map_eq_some_iff.1 hv3
                have HBF := Lib.hid hbf
                have HNX := Lib.hid hnext3
                have HAE := Lib.hid hae
                have HES := Lib.hid hes
                have HQS := Lib.hid hqs
                clear hv3 hbf hnext3 hae hci hac hes hqs hf3 hget
                go_upto_region 19 with fail
                go_wp2
                go_loopw [13, 82] (fun b x wr4 => ∃ (e : Nat) (best : Int), e ≤ es.length ∧ b = .int .i64 best ∧ x = .int .i64 e ∧ foldO (bestStep (placesOf s.n t.2) al3 k) ((es.map fun e => s.sr.getD e 0).take e) (-1) = some best ∧ -1 ≤ best ∧ best < s.n ∧ DE w1 wr4 pv g av g2 s.n (placesOf s.n t.2) al3)
                  (fun _ x _ => es.length - (intOf x).toNat)
                case atStart => exact ⟨0, -1, Nat.zero_le _, rfl, rfl, rfl, by omega, by omega, hd3⟩
                case round =>
                  obtain ⟨e, best, he, rfl, rfl, hfb, hb0, hbn, hd4⟩ := hrel
                  clear hd3 s5 hac' hci' hbw
                  have hbw := hb2.trans (hd4.bel.mono (Nat.le_of_lt hw1))
                  by_cases hlte : e < es.length
                  · obtain ⟨v4, hv4, hnext4⟩ := foldO_at _ _ e (by simpa using hlte) _ _ _ HBF.out hfb
                    obtain ⟨ade, ue, rfl, hbe, hce, hre⟩ := HAE.out e _ (List.getElem?_eq_getElem hlte)
                    have hxs := HIN.out.hfr _ (List.mem_of_getElem? HES.out) _ (List.getElem_mem hlte)
                    have hqe : (es.map fun e => s.sr.getD e 0)[e]'(by simpa using hlte) = s.sr.getD es[e] 0 := by simp
                    rw [hqe] at hv4
                    have hqn := HIN.out.preds_lt (p := p) (s.sr.getD es[e] 0) (by rw [HQS.out]; exact List.mem_map.2 ⟨_, List.getElem_mem hlte, rfl⟩)
                    revert hre hxs hv4 hqn
                    generalize es[e] = x
                    intro hv4 hre hxs hqn
                    obtain rfl : ue = .int .i64 (x : Int) := hre
                    have hqget : s.sr[x]? = some (s.sr.getD x 0) := by rw [List.getD_eq_getElem?_getD, List.getElem?_eq_getElem hxs]; rfl
                    revert hv4 hqn hqget
                    generalize s.sr.getD x 0 = q
                    intro hv4 hqn hqget
                    obtain ⟨adf, uf, rfl, hbf', hcf, hrf⟩ := HF.out x q hqget
                    obtain rfl : uf = .int .i64 (q : Int) := hrf
                    have hce' := (hbw.cell (p := ade.add e) (by rw [block_add]; omega)).trans hce
                    have hcf' := (hbw.cell (p := adf.add x) (by rw [block_add]; omega)).trans hcf
                    have s2 := (hblk.below hbw (by omega)).cellAt (i := 2) rfl
                    have hxs1 : (x : Int) < (s.sr.length : Int) := by omega
                    have hqn1 : (q : Int) < (s.n : Int) := by omega
                    have cpv := hd4.env.pv.cellAt (i := 0) rfl
                    have cav := hd4.env.av.cellAt (i := 0) rfl
                    have cpq := getI_cell hd4.env.pb (p := q) (by rw [hd4.env.hp]; exact hqn)
                    have caq := getI_cell hd4.env.ab (p := q) (by rw [hd4.env.ha]; exact hqn)
                    have H4 := Lib.hid hnext4
                    have HV := Lib.hid hv4
                    clear hnext4 hv4 hfb hqe hce hcf hqget
                    have HV2 := HV.out
                    unfold bestStep at HV2
                    have hEnd : ∀ (wz : World) (bz : Int), bz = v4 → -1 ≤ bz → bz < s.n → Only (fun _ => False) wr wz → (∃ (e_1 : Nat) (best_1 : Int), e_1 ≤ es.length ∧ Value.int .i64 bz = .int .i64 best_1 ∧ Value.int .i64 ((e : Int) + 1) = .int .i64 (e_1 : Int) ∧ foldO (bestStep (placesOf s.n t.2) al3 k) ((es.map fun e => s.sr.getD e 0).take e_1) (-1) = some best_1 ∧ -1 ≤ best_1 ∧ best_1 < s.n ∧ DE w1 wz pv g av g2 s.n (placesOf s.n t.2) al3) ∧ es.length - (intOf (.int .i64 ((e : Int) + 1))).toNat < es.length - (intOf (.int .i64 (e : Int))).toNat := by
                      intro wz bz hbz h1 h2 ho
                      refine ⟨⟨e + 1, bz, by omega, rfl, by simp, by rw [hbz]; exact H4.out, h1, h2, hd4.only ho⟩, ?_⟩
                      simp [intOf]; omega
                    have HEN := Lib.hid hEnd
                    clear hEnd
                    by_cases hA : getI (placesOf s.n t.2) q < 0
                    · rw [if_pos (.inl hA)] at HV2
                      have hv4 := Option.some.inj HV2
                      have HZ := Lib.hid hv4
                      clear HV2 hv4
                      go_wp2
                      case roundEnd => exact HEN.out _ _ HZ.out hb0 hbn (Only.refl _ _)
                    · by_cases hB' : getI al3 q < 0
                      · rw [if_pos (.inr hB')] at HV2
                        have hv4 := Option.some.inj HV2
                        have HZ := Lib.hid hv4
                        have hA' : decide (getI (placesOf s.n t.2) q < 0) = false := by simpa using hA
                        clear HV2 hv4 hA
                        go_wp2
                        case roundEnd => exact HEN.out _ _ HZ.out hb0 hbn (Only.refl _ _)
                      · rw [if_neg (by simp only [hA, hB', or_self, not_false_eq_true])] at HV2
                        have hA' : decide (getI (placesOf s.n t.2) q < 0) = false := by simpa using hA
                        have hB'' : decide (getI al3 q < 0) = false := by simpa using hB'
                        by_cases hC : best < 0
                        · rw [if_pos hC] at HV2
                          have hv4 := Option.some.inj HV2
                          have HZ := Lib.hid hv4
                          clear HV2 hv4 hA hB'
                          go_wp2
                          case roundEnd => exact HEN.out _ _ HZ.out (by omega) hqn1 (Only.refl _ _)
                        · rw [if_neg hC] at HV2
                          have hC' : decide (best < 0) = false := by simpa using hC
                          obtain ⟨rr, hrr, hv4⟩ := Option.map_eq_some_iff.1 HV2
                          have hbt : ((best.toNat : Nat) : Int) = best := Int.toNat_of_nonneg (by omega)
                          have hmeet := meet_any wr pv g av g2 s.n _ _ hd4.env k best.toNat q rr (by omega) hqn hrr
                          rw [hbt] at hmeet
                          have HZ := Lib.hid hv4
                          have HM := Lib.hid hmeet
                          clear HV2 hv4 hA hB' hC hmeet hbt hrr
                          go_wp2_with (go_at_call 75; refine HM.out.mono ?_; rintro en w9 ⟨rfl, ho9, hr9⟩)
                          case roundEnd => exact HEN.out _ _ HZ.out (by omega) (by omega) ho9
                  · have hgee : ¬ ((e : Int) < (es.length : Int)) := by omega
                    obtain rfl : e = es.length := by omega
                    rw [List.take_of_length_le (by simp), HBF.out] at hfb
                    obtain rfl : bf = best := Option.some.inj hfb
                    have cav := hd4.env.av.cellAt (i := 0) rfl
                    have cap := getI_cell hd4.env.ab (p := p) (by rw [hd4.env.ha]; exact hpn)
                    have fap := hd4.env.ab.frozen p
                    have hpn1 : (p : Int) < (s.n : Int) := by omega
                    have hd5 := hd4.set p bf hbn
                    have hdec : -9223372036854775808 ≤ (idx : Int) - 1 ∧ (idx : Int) - 1 ≤ 9223372036854775807 := by omega
                    clear hfb
                    by_cases hbe : bf = getI al3 p
                    · have HX := HNX.out
                      rw [if_pos hbe] at HX
                      have HZ := Lib.hid HX
                      clear HX hd5
                      go_wp2
                      go_roundw
                      case rel => exact ⟨m + 1, ch3, al3, by omega, rfl, by rw [← HII.out] <;> congr 1 <;> omega, HZ.out, hd4⟩
                      case measure => simp [intOf]
                    · have HX := HNX.out
                      rw [if_neg hbe] at HX
                      have HZ := Lib.hid HX
                      clear HX
                      go_wp2
                      go_roundw
                      case rel => exact ⟨m + 1, true, al3.set p bf, by omega, rfl, by rw [← HII.out] <;> congr 1 <;> omega, HZ.out, hd5⟩
                      case measure => simp [intOf]
              · have hge : (t.2.length : Int) - 2 - m < 0 := by omega
                obtain rfl : m = t.2.dropLast.reverse.length := by omega
                rw [List.take_length, HSW.out] at hf3
                obtain ⟨rfl, rfl⟩ : al' = al3 ∧ ch = ch3 := by simpa using hf3
                clear hf3
                go_wp2
                go_roundg j'
                case measure => omega
                case rel => exact ⟨ch, al', rfl, hd3, fun h => by have := HN.out; rw [h] at this; exact this, fun h => by have := HN.out; rw [h] at this; exact Option.some.inj this⟩

#print axioms dominators_any

end Go.Proofs.Ytngfoinceakgdaa
