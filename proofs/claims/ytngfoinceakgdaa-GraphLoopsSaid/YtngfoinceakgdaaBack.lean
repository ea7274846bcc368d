/- Package graph: back. -/
import Derived.Test.YtngfoinceakgdaaDom
import Derived.Deep.Onto
namespace Go.Proofs.Ytngfoinceakgdaa
open Go.RowKit Go.Shelf

theorem Ints.at {B : Nat} {w : World} {A : Option Addr} {n c : Nat} {l : List Int} (h : Ints B w (.slice A n c) l) {j : Nat} (hj : j < l.length) : ∃ ad, A = some ad ∧ ad.block < B ∧ w.cell? (ad.add j) = some (.int .i64 (getI l j)) := by
  obtain ⟨A', c', he, -, -, -, hat⟩ := Sl.shape h
  cases he
  obtain ⟨ad, u, rfl, hb, hc, hr⟩ := hat j _ (List.getElem?_eq_getElem hj)
  refine ⟨ad, rfl, hb, ?_⟩
  rw [hc]
  have : u = .int .i64 l[j] := hr
  rw [this]
  unfold getI
  rw [List.getD_eq_getElem?_getD, List.getElem?_eq_getElem hj]; rfl
theorem Nats.at {B : Nat} {w : World} {A : Option Addr} {n c : Nat} {l : List Nat} (h : Nats B w (.slice A n c) l) {j : Nat} (hj : j < l.length) : ∃ ad, A = some ad ∧ ad.block < B ∧ w.cell? (ad.add j) = some (.int .i64 (l.getD j 0 : Nat)) := by
  obtain ⟨A', c', he, -, -, -, hat⟩ := Sl.shape h
  cases he
  obtain ⟨ad, u, rfl, hb, hc, hr⟩ := hat j _ (List.getElem?_eq_getElem hj)
  refine ⟨ad, rfl, hb, ?_⟩
  rw [hc]
  have : u = .int .i64 (l[j] : Nat) := hr
  rw [this, List.getD_eq_getElem?_getD, List.getElem?_eq_getElem hj]; rfl
theorem Bools.at {B : Nat} {w : World} {A : Option Addr} {n c : Nat} {l : List Bool} (h : Bools B w (.slice A n c) l) {j : Nat} (hj : j < l.length) : ∃ ad, A = some ad ∧ ad.block < B ∧ w.cell? (ad.add j) = some (.bool (l.getD j false)) := by
  obtain ⟨A', c', he, -, -, -, hat⟩ := Sl.shape h
  cases he
  obtain ⟨ad, u, rfl, hb, hc, hr⟩ := hat j _ (List.getElem?_eq_getElem hj)
  refine ⟨ad, rfl, hb, ?_⟩
  rw [hc]
  have : u = .bool l[j] := hr
  rw [this, List.getD_eq_getElem?_getD, List.getElem?_eq_getElem hj]; rfl

theorem fam_one {e : TypeId} {w : World} {base : Nat} : Fam e w base [.slice none 0 0] [[]] := by
  refine ⟨rfl, fun i v l hv hl => ?_, fun i j u v hu hv hne => ?_⟩
  · cases i with
    | zero => cases hv; cases hl; exact World.ownsRow_nil _ _ _ _
    | succ i => cases hv
  · cases i with
    | zero =>
      cases j with
      | zero => exact absurd rfl hne
      | succ j => cases hv
    | succ i => cases hu

set_option maxRecDepth 100000 in
set_option maxHeartbeats 4000000 in
theorem back_any (B : Nat) (w : World) (sa : Nat) (s : Shp) (hs : IsShape B w sa s) (hB : B ≤ w.heap.size) (hok : s.Ok) (hin : s.OkIn) (hto : s.OkTo) (hn : s.n ≤ 1000) (k j : Nat) (t : List Bool × List Nat) (ab : List Int) (res : List Nat)
    (hd : foldO (dfsV s.next (-1) k) [s.entry] (List.replicate s.n false, []) = some t) (hlen : t.2.length ≤ 100000) (hord : ∀ x ∈ t.2, x < s.n) (hdom : domF s k j t.2 = some ab) (habl : ab.length = s.n) (habn : ∀ p, getI ab p < s.n)
    (hres : backF s ab t.1 k = some res) :
    Calls Try.prog 56 #[.pointer (some ⟨sa, 0, none⟩)] w fun en w' => ∃ v, en = .returned v ∧ w'.ownsRow w.heap.size 3 1 v res.length (res.map natV) ∧ Below w.heap.size w w' := by
  obtain ⟨hsa, vf, vt, vo, vi, hblk, hnf, hnt, -, -⟩ := id hs
  obtain ⟨Af, cf, rfl, hlf, -, hmf, -⟩ := hnf.shape
  obtain ⟨At, ct, rfl, hlt, -, hmt, -⟩ := hnt.shape
  have htl : t.1.length = s.n := by have := dfsF_length _ _ _ _ hd; simpa using this
  have hdm := dominators_any B w sa s hs hB hok hin hn k j t ab hd hlen hord hdom
  have hreach := fun (w1 : World) (h1 : Below w.heap.size w w1) => reach_any (w1.alloc (.cells #[.int .i64 (s.entry : Int)] 3)).heap.size _ sa s (-1) (.slice (some ⟨w1.heap.size, 0, none⟩) 1 1) [s.entry] k t
      ((hs.below ((h1.mono hB).alloc (Nat.le_trans hB h1.size) _)).more (by have := h1.size; rw [World.size_alloc]; omega)) (Nat.le_refl _) hok (nats_one w1 s.entry) (by simpa using hin.hent) hd (by omega)
  have HD := Lib.hid hdm
  have HR := Lib.hid hreach
  have HRES := Lib.hid hres
  have HIN := Lib.hid hin
  have HAL := Lib.hid habl
  have HTL := Lib.hid htl
  clear hdm hreach hd hdom hres hin habl htl
  go_enter Try.func56, Try.ntmps56
  go_upto_region 2 with (go_at_call 52; refine HD.out.mono ?_; rintro en w1 ⟨va, rfl, hva, hb1⟩)
  have s1 := (hblk.below hb1 (by omega)).cellAt (i := 1) rfl
  go_upto_region 4 with (go_at_call 58; refine (HR.out _ hb1).mono ?_; rintro en w2 ⟨vr, vo2, rfl, hvr, hvo, hb2⟩)
  have hb3 : Below w1.heap.size w1 w2 := ((Below.refl _ w1).alloc (Nat.le_refl _) _).trans (hb2.mono (by rw [World.size_alloc]; omega))
  have hva2 := (hva.below hb3).more hb3.size
  have hbw := hb1.trans (hb3.mono hb1.size)
  obtain ⟨Aa, ca, rfl, -, -, hma, -⟩ := hva2.shape
  obtain ⟨Ar, cr, rfl, -, -, hmr, -⟩ := hvr.shape
  clear hb2 hva s1
  have s2 := (hblk.below hbw (by omega)).cellAt (i := 2) rfl
  go_wp2
  go_loopw [6, 26] (fun x y wr => ∃ (m : Nat) (out : List Nat) (vo : Value), m ≤ s.sr.length ∧ vo = x ∧ y = .int .i64 m ∧ foldO (backStep s ab t.1 k) (List.range m) [] = some out ∧ Fam 3 wr w2.heap.size [vo] [out] ∧ Below w2.heap.size w2 wr)
    (fun _ y _ => s.sr.length - (intOf y).toNat)
  case atStart => exact ⟨0, [], _, Nat.zero_le _, rfl, rfl, rfl, fam_one, Below.refl _ _⟩
  case round =>
    obtain ⟨m, out, vo1, hm, rfl, rfl, hf, hfam, hb4⟩ := hrel
    clear s2
    have hbr := hbw.trans (hb4.mono hbw.size)
    by_cases hltm : m < s.sr.length
    · obtain ⟨v, hv, hnext⟩ := foldO_range _ _ m hltm _ _ _ HRES.out hf
      obtain ⟨adf, rfl, hbf, hcf⟩ := hnf.at hltm
      obtain ⟨adt, rfl, hbt, hct⟩ := hnt.at (j := m) (by rw [← hto.hlen]; exact hltm)
      have hfn : s.sr.getD m 0 < s.n := HIN.out.hfn _ (by rw [List.getD_eq_getElem?_getD, List.getElem?_eq_getElem hltm]; exact List.getElem_mem hltm)
      unfold backStep at hv
      revert hcf hct hfn hv
      generalize s.sr.getD m 0 = f
      generalize s.tg.getD m 0 = tq
      intro hv hcf hct hfn
      have hcf' := (hbr.cell (p := adf.add m) (by rw [block_add]; omega)).trans hcf
      have hct' := (hbr.cell (p := adt.add m) (by rw [block_add]; omega)).trans hct
      have s2 := (hblk.below hbr (by omega)).cellAt (i := 2) rfl
      have s3 := (hblk.below hbr (by omega)).cellAt (i := 3) rfl
      obtain ⟨adr, rfl, hbrr, hcr⟩ := hvr.at (j := f) (by rw [HTL.out]; exact hfn)
      have hcr' := (hb4.cell (p := adr.add f) (by rw [block_add]; exact hbrr)).trans hcr
      have hfn1 : (f : Int) < (t.1.length : Int) := by rw [HTL.out]; omega
      have hltm1 : (m : Int) < (s.sr.length : Int) := by omega
      have hltm2 : (m : Int) < (s.tg.length : Int) := by have := hto.hlen; omega
      have hol := backF_length m out hf
      have hEnd : ∀ (wz : World) (vz : Value), Fam 3 wz w2.heap.size [vz] [v] → Below w2.heap.size w2 wz → (∃ (m_1 : Nat) (out : List Nat) (vo : Value), m_1 ≤ s.sr.length ∧ vo = vz ∧ Value.int .i64 ((m : Int) + 1) = .int .i64 (m_1 : Int) ∧ foldO (backStep s ab t.1 k) (List.range m_1) [] = some out ∧ Fam 3 wz w2.heap.size [vo] [out] ∧ Below w2.heap.size w2 wz) ∧ s.sr.length - (intOf (.int .i64 ((m : Int) + 1))).toNat < s.sr.length - (intOf (.int .i64 (m : Int))).toNat := by
        intro wz vz h1 h2
        refine ⟨⟨m + 1, v, vz, by omega, rfl, by simp, hnext, h1, h2⟩, ?_⟩
        simp [intOf]; omega
      have HEN := Lib.hid hEnd
      have HV := Lib.hid hv
      clear hEnd hf hnext hcf hct hcr hv
      by_cases hseen : t.1.getD f false = false
      · have hv2 := HV.out
        rw [if_pos hseen] at hv2
        obtain rfl : out = v := Option.some.inj hv2
        clear hv2
        rw [hseen] at hcr'
        go_wp2
        case roundEnd => exact HEN.out _ _ hfam hb4
      · have hv2 := HV.out
        rw [if_neg hseen] at hv2
        obtain ⟨b, hhit, rfl⟩ := Option.map_eq_some_iff.1 hv2
        have hseen' : t.1.getD f false = true := by simpa using hseen
        rw [hseen'] at hcr'
        have HH := Lib.hid hhit
        clear hv2 hhit hseen hseen'
        go_wp2
        go_loopg [6, 8] k (fun k' z x wz => ∃ p : Int, vo1 = z ∧ x = .int .i64 p ∧ p < s.n ∧ hitsF ab k' p tq = some b ∧ wr = wz)
        case atStart => exact ⟨f, rfl, rfl, by omega, HH.out, rfl⟩
        case round =>
          obtain ⟨p, rfl, rfl, hpn, hh, rfl⟩ := hrel
          cases gk with
          | zero => simp [hitsF] at hh
          | succ k' =>
            simp only [hitsF] at hh
            by_cases hp0 : p < 0
            · rw [if_pos hp0] at hh
              obtain rfl : false = b := Option.some.inj hh
              have hp0' : ¬ (0 : Int) ≤ p := by omega
              clear hh hp0
              go_wp2
              case roundEnd => exact HEN.out _ _ (by simpa using hfam) hb4
            · rw [if_neg hp0] at hh
              have hp0' : (0 : Int) ≤ p := by omega
              clear hp0
              by_cases hpt : p = (tq : Int)
              · rw [if_pos hpt] at hh
                obtain rfl : true = b := Option.some.inj hh
                subst hpt
                have hfa := hfam.alloc (.cells #[.int .i64 (m : Int)] 3)
                have hnb : Blk (wr.alloc (.cells #[.int .i64 (m : Int)] 3)) wr.heap.size 3 [natV m] := Blk.newAt wr 3 #[.int .i64 (m : Int)] rfl
                have hb5 := hb4.alloc hb4.size (.cells #[.int .i64 (m : Int)] 3)
                clear hh
                go_wp2_with (at_builtin; refine wpList_append_fam rfl (.tmp 62) (.tmp 64) 27 rfl 3 Try.underlying27 info_int w2.heap.size [vo1] [out] 0 vo1 out m wr.heap.size rfl rfl hfa hnb rfl rfl hb5.size (by have := hto.hmax; omega) ?_)
                intro g c wz hF hg
                have hb6 := hb5.grown hg hb5.size (fun b hb => (hfam.lt (i := 0) rfl hb).1)
                go_wp2
                go_roundw
                case rel => exact (HEN.out _ _ hF hb6).1
                case measure => exact (HEN.out _ _ hF hb6).2
              · rw [if_neg hpt] at hh
                obtain ⟨ada, rfl, hba, hca⟩   := Ints.at hva2 (j := p.toNat) (by rw [HAL.out]; omega)
                have hpp : ((p.toNat : Nat) : Int) = p := Int.toNat_of_nonneg hp0'
                have hca' := (hb4.cell (p := ada.add p.toNat) (by rw [block_add]; exact hba)).trans hca
                have hpn1 : p < (ab.length : Int) := by rw [HAL.out]; omega
                have hpt' : decide (p = (tq : Int)) = false := by simpa using hpt
                have hpa := habn p.toNat
                clear hpp
                go_wp2
                go_roundg k'
                case measure => omega
                case rel => exact ⟨_, rfl, rfl, hpa, hh, rfl⟩
    · have hgem : ¬ ((m : Int) < (s.sr.length : Int)) := by omega
      obtain rfl : m = s.sr.length := by omega
      obtain rfl : res = out := by have := HRES.out; unfold backF at this; rw [this] at hf; exact Option.some.inj hf
      go_wp2
      go_ret
      exact ⟨_, rfl, (hfam.own 0 _ _ rfl rfl).mono hbw.size, hbr⟩

#print axioms back_any

end Go.Proofs.Ytngfoinceakgdaa
