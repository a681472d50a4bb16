/-
  strong.Replay of a right system that has states.
-/
import Derived.Test.YtfakdgljilmpkaaGreatDoorStrO
import Derived.Test.YtfakdgljilmpkaaGreatDoorGStrL
namespace Go.Proofs.YtfakdgljilmpkaaGreatDoor
open Go.RowKit Pl

/-- Lists of numbers in memory. -/
structure IRows (w : World) (a : Option Addr) (b off : Nat) (vs : List Value) (T : List (List Int)) : Prop where
  sl : SlAt encV 1 w a b off vs
  len : vs.length = T.length
  row : ∀ (k : Nat) (L : List Int), T[k]? = some L → L.length ≤ 9223372036854775807 ∧ ∃ (ia : Option Addr) (ib io ic : Nat), vs[k]? = some (Value.slice ia L.length ic) ∧ SlAt encI 1 w ia ib io L
theorem IRows.below {w w' : World} {a : Option Addr} {b off : Nat} {vs : List Value} {T : List (List Int)} (h : IRows w a b off vs T) (hB : Below w.heap.size w w') : IRows w' a b off vs T :=
  ⟨h.sl.below hB (Nat.le_refl _), h.len, fun k L hL => by
    obtain ⟨h0, ia, ib, io, ic, h1, h2⟩ := h.row k L hL
    exact ⟨h0, ia, ib, io, ic, h1, h2.below hB (Nat.le_refl _)⟩⟩

/-- A fault of this layer over a package-level error. -/
def FaultC (w : World) (pc : Addr) (v : Value) : Prop := FaultAt w v strName (.iface 275 (.pointer (some pc)))

/-- What Replay answers. -/
def RepPost (s : Lts) (n : Nat) (T : List (List Int)) (pc : Addr) (w : World) (e : Ending) (w' : World) : Prop :=
  ((∃ (inn : Nat → Nat) (a : Option Addr) (c : Nat), Big s n (fun p => (inn p : Int)) ∧ e = .returned (.tuple #[.slice a n c, .nilIface]) ∧ w'.ownsRow w.heap.size 3 1 (.slice a n c) n ((canon (flN n inn)).flatMap encI)) ∨
   ∃ v, e = .returned (.tuple #[.slice none 0 0, v]) ∧ FaultC w' pc v ∧ PlayBad s n T) ∧ Below w.heap.size w w'

/-- The world behind k takings. -/
def RepAt (w0 : World) (s : Lts) (n : Nat) (T : List (List Int)) (xb k : Nat) (wr : World) : Prop :=
  ∃ (K : PK) (S : SK) (el pl inn hp ga : Nat → Nat) (bl : List B3) (sz : List Int) (tl : List Value) (rest : List Rw), S.xb = xb ∧ SW w0 wr s K S n el pl inn bl hp ga sz tl rest ∧ (∀ z, z < n → ¬ Mkd pl inn bl z) ∧
    ((k = 0 ∧ inn = z0 ∧ hp = z0 ∧ ga = z0 ∧ tl = []) ∨ (0 < k ∧ RunS s n inn hp ga sz ∧ Played s n T k inn hp sz.length ∧ tl.length = sz.length))

theorem rep_first {s : Lts} {n : Nat} {T : List (List Int)} {inn : Nat → Nat} (hn : 0 < n) (hT : T[0]? = some ((List.range n).map Int.ofNat)) (h : SplitBy s n (· ∈ List.range n) z0 inn) : Played s n T 1 inn z0 1 :=
  .first hn hT (inn := z0) (fun _ _ _ _ => rfl) (h.congr (fun t ht => by simpa using ht)) (fun _ _ => rfl)

theorem rep_next {s : Lts} {n k : Nat} {T : List (List Int)} {inn hp ga inn1 inn2 : Nat → Nat} {sz : List Int} {p p0 : Nat} (hr : RunS s n inn hp ga sz) (hP : Played s n T k inn hp sz.length) (hpn : p < n) (hT : T[k]? = some ((memN n inn (inn p)).map Int.ofNat))
    (hs : smallB (memN n inn (inn p)).length (memN n hp (hp p)).length = true) (hp0 : (memN n inn (inn p))[0]? = some p0) {sh : Int} (hsh : sz[hp p0]? = some sh) (h1 : SplitBy s n (· ∈ memN n inn (inn p)) inn inn1)
    (h2 : SplitBy s n (· ∈ memN n (fun q => if q ∈ memN n inn (inn p) then sz.length else hp q) (hp p0)) inn1 inn2) :
    RunS s n inn2 (fun q => if q ∈ memN n inn (inn p) then sz.length else hp q) (fun q => if q ∈ memN n inn (inn p) then ga q + 1 else ga q) ((sz ++ [((memN n inn (inn p)).length : Int)]).set (hp p0) (sh - (memN n inn (inn p)).length)) ∧
    Played s n T (k + 1) inn2 (fun q => if q ∈ memN n inn (inn p) then sz.length else hp q) ((sz ++ [((memN n inn (inn p)).length : Int)]).set (hp p0) (sh - (memN n inn (inn p)).length)).length := by
  have hm := mem_memN.1 (List.mem_of_getElem? hp0)
  have e0 : hp p0 = hp p := hr.run.sub p0 p hm.1 hpn hm.2
  have hpos : 0 < (memN n inn (inn p)).length := (List.getElem?_eq_some_iff.1 hp0).1
  have hlt := hr.run.rng p hpn
  rw [e0] at h2 hsh ⊢
  unfold smallB at hs
  simp only [Bool.and_eq_true, Bool.not_eq_true', decide_eq_false_iff_not, decide_eq_true_eq] at hs
  refine ⟨hr.takeH (b := inn p) (h := hp p) (fun q hq e => hr.run.sub q p hq hpn e) (by omega) hpos h1 h2 hsh, ?_⟩
  have hl : ((sz ++ [((memN n inn (inn p)).length : Int)]).set (hp p) (sh - (memN n inn (inn p)).length)).length = sz.length + 1 := by simp
  rw [hl]
  refine .next hP hpn hT (by unfold smallB; simp only [Bool.and_eq_true, Bool.not_eq_true', decide_eq_false_iff_not, decide_eq_true_eq]; omega) (h1.congr (fun t ht => by rw [mem_memN]; simp [ht])) (h2.congr (fun t ht => ?_)) (fun q hq => ?_)
  · rw [mem_memN]
    by_cases e : inn t = inn p
    · rw [if_pos (mem_memN.2 ⟨ht, e⟩)]
      constructor
      · rintro ⟨_, h⟩; omega
      · rintro ⟨_, h⟩; exact absurd e h
    · rw [if_neg (fun h => e (mem_memN.1 h).2)]
      constructor
      · rintro ⟨_, h⟩; exact ⟨h, e⟩
      · rintro ⟨h, _⟩; exact ⟨ht, h⟩
  · by_cases e : inn q = inn p
    · rw [if_pos (mem_memN.2 ⟨hq, e⟩), if_pos e]
    · rw [if_neg (fun h => e (mem_memN.1 h).2), if_neg e]

set_option maxRecDepth 100000 in
set_option maxHeartbeats 8000000 in
theorem replayYes_any {p pc : Addr} {s : Lts} {n : Nat} (h : s.Right) (hn : s.st = (n : Int)) (hn0 : 0 < n) {a : Option Addr} {b off c : Nat} {w : World} (hG : GErr 0 p w) (hC : GErr 2 pc w) (hS : SlAt encE 3 w a b off s.es)
    {T : List (List Int)} (hT : T.length ≤ 9223372036854775807) {ta : Option Addr} {tb tf tc : Nat} {vs : List Value} (hI : IRows w ta tb tf vs T) :
    Calls Tryz.prog 39 #[.agg #[.int .i64 s.st, .int .i64 s.lb, .int .i64 s.s0, .slice a s.es.length c], .slice ta T.length tc] w (RepPost s.norm n T pc w) := by
  have hst := h.st0
  have hn1 : n ≤ 1000 := by omega
  have hB0 := (Below.refl w.heap.size w).alloc (Nat.le_refl _) (Obj.cells #[.int .i64 s.st, .int .i64 s.lb, .int .i64 s.s0, .slice a s.es.length c] 24)
  have hN := newPlayYes_any (c := c) h hn hn0 (hG.below hB0) (hS.below hB0 (Nat.le_refl _))
  have HN := Lib.hid hN; have HB0 := Lib.hid hB0; have HC := Lib.hid hC; have HI := Lib.hid hI
  have HNST : RowKit.Hid (s.norm.st = (n : Int)) := Lib.hid hn
  obtain ⟨m, hm⟩ : ∃ m, m = T.length := ⟨_, rfl⟩
  rw [← hm] at hT ⊢
  have HM := Lib.hid hm
  clear hN hB0 hS hG h hst hn hC hI hm
  go_enter Tryz.func39, Tryz.ntmps39
  go_wp2_with fail
  refine HN.out.mono ?_
  unfold PlayPost
  rintro e w1 ⟨w0, K0, S0, rfl, hsw, hbw⟩
  have HBW := Lib.hid (HB0.out.trans (hbw.mono (by simp)))
  have HINIT : RowKit.Hid (RepAt w0 s.norm n T S0.xb 0 w1) := Lib.hid ⟨K0, S0, _, _, _, _, _, _, _, _, _, rfl, hsw, fun z _ => none_one n z, .inl ⟨rfl, rfl, rfl, rfl, rfl⟩⟩
  obtain ⟨xb, hxb⟩ : ∃ xb, xb = S0.xb := ⟨_, rfl⟩
  rw [← hxb] at HINIT ⊢
  clear hsw hbw hxb HN HB0
  go_wp2_with fail
  go_loopw [8, 9, 22] (fun _ _ v22 wr => ∃ k : Nat, v22 = .int .i64 k ∧ k ≤ m ∧ RepAt w0 s.norm n T xb k wr) (fun _ _ v22 _ => m - (intOf v22).toNat)
  case atStart => exact ⟨0, rfl, Nat.zero_le _, HINIT.out⟩
  case round =>
    obtain ⟨k, rfl, hk, hrep⟩ := hrel
    obtain ⟨K, S, el, pl, inn, hp, ga, bl, sz, tl, rest, hxb, hsw, hun, hst⟩ := hrep
    have hbr := HBW.out.trans (hsw.par.rws.bel.mono HBW.out.size)
    have HB1 := Lib.hid hsw.par.rws.bel
    have HSW := Lib.hid hsw; have HUN := Lib.hid hun; have HBR := Lib.hid hbr; have HXB := Lib.hid hxb
    have HIR := Lib.hid (HI.out.below hbr); have HCR := Lib.hid (HC.out.below hbr)
    clear hsw hun hbr hxb HINIT
    by_cases hkm : k < m
    · obtain ⟨L, hL⟩ : ∃ L, T[k]? = some L := ⟨_, List.getElem?_eq_getElem (by rw [← HM.out]; exact hkm)⟩
      obtain ⟨hLl, ia, ib, io, ic, hv, hs0⟩ := (HI.out.below HBW.out).row k L hL
      have hs := hs0.below HB1.out (Nat.le_refl _)
      have hvl : 0 < vs.length := by have := (List.getElem?_eq_some_iff.1 hv).1; omega
      obtain rfl := HIR.out.sl.ad hvl
      have d0 := HIR.out.sl.cv hv
      have dl := HIR.out.sl.lt hvl
      have hkI : (k : Int) < (m : Int) := by omega
      have HLT := Lib.hid hL; have HSL := Lib.hid hs
      have HIX : RowKit.Hid (∀ w', Below w0.heap.size w0 w' → SlAt encI 1 w' ia ib io L) := Lib.hid (fun w' hw => hs0.below hw (Nat.le_refl _))
      have hg := HCR.out.cell
      have hgl := HCR.out.lt
      clear hL hv hs hs0
      have HALL := Lib.hid (all_any (ic := ic) HSW.out hLl HSL.out)
      rw [HXB.out] at HALL
      obtain ⟨ll, hll⟩ : ∃ ll, ll = L.length := ⟨_, rfl⟩
      rw [← hll] at HALL d0 hLl
      have HLL := Lib.hid hll
      clear hll
      rcases hst with ⟨hk0, hinn, hhp, hga, htl⟩ | ⟨hk0, hrs, hpl, htl⟩
      · have HE := Lib.hid (show inn = z0 ∧ hp = z0 ∧ ga = z0 ∧ tl = [] from ⟨hinn, hhp, hga, htl⟩)
        subst hk0
        clear hinn hhp hga htl
        simp only [Nat.add_zero, Int.natCast_zero] at d0 ⊢ hkI
        by_cases hL0 : ll = 0
        · have c4 : decide ((ll : Int) > 0) = false := by simp; omega
          have HBAD : RowKit.Hid (PlayBad s.norm n T) := Lib.hid (.inr (.inl (by
            rw [HLT.out]
            intro h2
            have h3 : L = (List.range n).map Int.ofNat := Option.some.inj h2
            have h4 := HLL.out
            rw [h3, List.length_map, List.length_range] at h4
            omega)))
          have HBE := HBR
          go_wp2_with fail
          refine (faultNew_any _ _ _ _).mono ?_
          rintro e w5 ⟨rfl, rfl⟩
          go_wp2_with fail
          go_ret2
          exact ⟨.inr ⟨_, rfl, ⟨_, rfl, heap_alloc_new _ _⟩, HBAD.out⟩, HBE.out.alloc HBE.out.size _⟩
        · have c4 : decide ((ll : Int) > 0) = true := by simp; omega
          by_cases hLr : L = (List.range n).map Int.ofNat
          · rw [show decide (L = (List.range n).map Int.ofNat) = true by simpa using hLr] at HALL
            have HLR := Lib.hid hLr
            have hz1 := HE.out.1; have hz2 := HE.out.2.1; have hz3 := HE.out.2.2.1; have hz4 := HE.out.2.2.2
            subst hz1 hz2 hz3 hz4
            clear hLr hg hgl
            go_wp2_with fail
            refine HALL.out.mono ?_
            rintro e w4 ⟨rfl, hB4⟩
            have HBG := Lib.hid (begin_any (HSW.out.call hB4) HUN.out (fun p _ => by unfold z0; omega) (by simp))
            rw [HXB.out] at HBG
            clear hB4 HALL d0 dl
            go_wp2_with fail
            refine HBG.out.mono ?_
            unfold BeginPost
            rintro e w5 ⟨rfl, K1, S1, el1, pl1, inn1, bl1, aa, ac, hsw1, hpb1, hxb1, hun1, hsb1⟩
            have hrs1 := RunS.begin hn0 hsb1
            have HNX : RowKit.Hid (RepAt w0 s.norm n T xb (0 + 1) w5) := Lib.hid ⟨K1, S1, el1, pl1, inn1, _, _, bl1, _, _, _, hxb1.trans HXB.out, hsw1, hun1, .inr ⟨by omega, hrs1, rep_first hn0 (by rw [HLT.out, HLR.out]) hsb1, by simp⟩⟩
            clear hsw1 hpb1 hxb1 hun1 hsb1 hrs1 HBG
            go_wp2_with fail
            go_roundw
            case rel => exact ⟨0 + 1, by go_num, by omega, HNX.out⟩
            case measure => simp [intOf]; omega
          · rw [show decide (L = (List.range n).map Int.ofNat) = false by simpa using hLr] at HALL
            have HBAD : RowKit.Hid (PlayBad s.norm n T) := Lib.hid (.inr (.inl (by
              rw [HLT.out]
              intro h2
              exact hLr (Option.some.inj h2))))
            clear hLr
            go_wp2_with fail
            refine HALL.out.mono ?_
            rintro e w4 ⟨rfl, hB4⟩
            have hg4 := (HCR.out.below hB4).cell
            have hgl4 := (HCR.out.below hB4).lt
            have HBE := Lib.hid (HBR.out.trans (hB4.mono HBR.out.size))
            clear hB4 hg hgl d0 dl HALL
            go_wp2_with fail
            refine (faultNew_any _ _ _ _).mono ?_
            rintro e w5 ⟨rfl, rfl⟩
            go_wp2_with fail
            go_ret2
            exact ⟨.inr ⟨_, rfl, ⟨_, rfl, heap_alloc_new _ _⟩, HBAD.out⟩, HBE.out.alloc HBE.out.size _⟩
      · have k0 : ((k : Int) == 0) = false := by simp; omega
        have k1 : decide ((k : Int) > 0) = true := by simp; omega
        have HRS := Lib.hid hrs; have HPL := Lib.hid hpl; have HTL := Lib.hid htl
        have HMAY := Lib.hid (may_any (ic := ic) HSW.out hrs (by rw [← HLL.out]; exact hLl) HSL.out)
        rw [HXB.out, ← HLL.out] at HMAY
        have hfew := hrs.few
        clear hrs hpl htl HALL
        go_wp2_with fail
        refine HMAY.out.mono ?_
        rintro e w4 ⟨⟨r, rfl, hr⟩, hB4⟩
        cases r
        · have HBAD : RowKit.Hid (PlayBad s.norm n T) := Lib.hid (.inr (.inr (.inl ⟨k, inn, hp, _, L, HPL.out, HLT.out, fun h => by have := hr.2 h; cases this⟩)))
          have hg4 := (HCR.out.below hB4).cell
          have hgl4 := (HCR.out.below hB4).lt
          have HBE := Lib.hid (HBR.out.trans (hB4.mono HBR.out.size))
          clear hB4 hg hgl d0 dl HMAY hr
          go_wp2_with fail
          refine (faultNew_any _ _ _ _).mono ?_
          rintro e w5 ⟨rfl, rfl⟩
          go_wp2_with fail
          go_ret2
          exact ⟨.inr ⟨_, rfl, ⟨_, rfl, heap_alloc_new _ _⟩, HBAD.out⟩, HBE.out.alloc HBE.out.size _⟩
        · obtain ⟨p, hpn, hLm, hsm⟩ := hr.1 rfl
          have hlm : L.length = (memN n inn (inn p)).length := by rw [hLm, List.length_map]
          have hpos : 0 < (memN n inn (inn p)).length := List.length_pos_of_mem (mem_memN.2 ⟨hpn, rfl⟩)
          obtain ⟨p0, hp0⟩ : ∃ p0, (memN n inn (inn p))[0]? = some p0 := ⟨_, List.getElem?_eq_getElem hpos⟩
          have hpm := mem_memN.1 (List.mem_of_getElem? hp0)
          have hsz := HRS.out.szs (hp p0) (HRS.out.run.rng p0 hpm.1)
          have hmle := memN_le (n := n) hp (hp p0)
          have hTK := take_any (ic := ic) (ia := ia) (ib := ib) (io := io) (HSW.out.call hB4) HUN.out (fun p hpn => Nat.le_trans (HRS.out.gau.small hpn) (by omega)) (by rw [HTL.out]; omega) (by omega) (fun t ht => (mem_memN.1 ht).1) (memN_nodup inn (inn p)) hp0 hsz ⟨by omega, by omega⟩
            (fun w' hw => by rw [← hLm]; exact HIX.out w' (hw.bel))
          rw [HXB.out, ← hlm, ← HLL.out] at hTK
          have HTK := Lib.hid hTK
          have HP := Lib.hid (show p < n ∧ L = (memN n inn (inn p)).map Int.ofNat ∧ smallB (memN n inn (inn p)).length (memN n hp (hp p)).length = true ∧ (memN n inn (inn p))[0]? = some p0 from ⟨hpn, hLm, hsm, hp0⟩)
          have HLM := Lib.hid hlm
          clear hB4 hg hgl d0 dl HMAY hr hpn hLm hlm hpos hp0 hpm hsz hmle hTK hsm
          go_wp2_with fail
          refine HTK.out.mono ?_
          unfold TakePost
          rintro e w5 ⟨rfl, K2, S2, el2, pl2, inn1, inn2, bl2, sh, hsh, hsw2, hpb2, hxb2, hun2, hs1, hs2⟩
          obtain ⟨q1, q2, q3, q4⟩ := HP.out
          obtain ⟨hrs2, hpl2⟩ := rep_next HRS.out HPL.out q1 (by rw [HLT.out, ← q2]) q3 q4 hsh hs1 hs2
          have HNX : RowKit.Hid (RepAt w0 s.norm n T xb (k + 1) w5) := Lib.hid ⟨K2, S2, el2, pl2, inn2, _, _, bl2, _, _, _, hxb2.trans HXB.out, hsw2, hun2, .inr ⟨by omega, hrs2, hpl2, by simp [HTL.out]⟩⟩
          clear hsh hsw2 hpb2 hxb2 hun2 hs1 hs2 q1 q2 q3 q4 hrs2 hpl2 HTK
          go_wp2_with fail
          go_roundw
          case rel => exact ⟨k + 1, by go_num, by omega, HNX.out⟩
          case measure => simp [intOf]; omega
    · obtain rfl : k = m := by omega
      obtain ⟨x0, x1, x2, x3, x4, x5, x6, xl⟩ := HSW.out.run.sCells
      rw [HXB.out] at x0 x1 x2 x3 x4 x5 x6 xl
      rcases hst with ⟨hk0, hinn, hhp, hga, htl⟩ | ⟨hk0, hrs, hpl, htl⟩
      · subst hk0
        have HBAD : RowKit.Hid (PlayBad s.norm n T) := Lib.hid (.inr (.inl (by
          rw [List.getElem?_eq_none (by rw [← HM.out]; omega)]
          intro h; cases h)))
        have hg := HCR.out.cell
        have hgl := HCR.out.lt
        have HBE := HBR
        have hnI : (0 : Int) < (n : Int) := by omega
        clear hinn hhp hga htl x0 x1 x3 x4 x5 x6
        go_wp2_with fail
        refine (faultNew_any _ _ _ _).mono ?_
        rintro e w5 ⟨rfl, rfl⟩
        go_wp2_with fail
        go_ret2
        exact ⟨.inr ⟨_, rfl, ⟨_, rfl, heap_alloc_new _ _⟩, HBAD.out⟩, HBE.out.alloc HBE.out.size _⟩
      · have HRS := Lib.hid hrs; have HPL := Lib.hid hpl; have HTL := Lib.hid htl
        have hfew := hrs.few
        have hz0 : 0 < sz.length := by have := hrs.run.rng 0 hn0; omega
        have HBK := Lib.hid (blocks_any HSW.out (by omega) hz0 hrs.run.rng)
        rw [HXB.out] at HBK
        have k0 : ((k : Int) == 0) = false := by simp; omega
        clear hrs hpl htl x0 x1 x2 x3 x4 x5 x6 xl
        obtain ⟨mz, hmz⟩ : ∃ mz, mz = sz.length := ⟨_, rfl⟩
        have HMZ := Lib.hid hmz
        rw [← hmz] at hfew hz0
        clear hmz
        go_wp2_with fail
        refine HBK.out.mono ?_
        unfold BlocksPost
        rw [← HMZ.out]
        rintro e w2 ⟨ob, vs2, rfl, hr2, _⟩
        have HR2 := Lib.hid hr2
        clear hr2 HBK
        go_wp2_with fail
        go_loopw [11, 72] (fun _ v72 wr => ∃ j : Nat, v72 = .int .i64 j ∧ j ≤ mz ∧ wr = w2 ∧ ∀ h, h < j → (bksOf el hp bl bl.length h).length < 2) (fun _ v72 _ => mz - (intOf v72).toNat)
        case atStart => exact ⟨0, rfl, Nat.zero_le _, rfl, fun h hh => by omega⟩
        case round =>
          obtain ⟨j, rfl, hj, rfl, hno⟩ := hrel
          have HNO := Lib.hid hno
          clear hno
          have hB2 := HBW.out.trans (HR2.out.bel.mono HBW.out.size)
          have HB2 := Lib.hid hB2
          by_cases hjm : j < mz
          · obtain ⟨q0, _, ql, _⟩ := HR2.out.frCell (l := j) hjm
            obtain ⟨xa, xc, xb0, hxv, _, _, _, _⟩ := slAt_own lenI (HR2.out.frOwn (l := j) hjm)
            have hbl := bks_len el hp bl bl.length j
            have hfb := HSW.out.par.pi.few
            have hlm : ((bksOf el hp bl bl.length j).map Int.ofNat).length = (bksOf el hp bl bl.length j).length := List.length_map ..
            rw [hlm] at hxv
            rw [hxv] at q0
            obtain ⟨X, hX⟩ : ∃ X, X = bksOf el hp bl bl.length j := ⟨_, rfl⟩
            rw [← hX] at q0 hbl
            have HX := Lib.hid hX
            have hjI : (j : Int) < (mz : Int) := by omega
            clear hxv hlm hX hB2
            by_cases h2 : X.length < 2
            · have h2I : decide ((X.length : Int) > 1) = false := by simp; omega
              have HN2 : RowKit.Hid (∀ h, h < j + 1 → (bksOf el hp bl bl.length h).length < 2) := Lib.hid (fun h hh => by
                by_cases e : h = j
                · subst e; rw [← HX.out]; exact h2
                · exact HNO.out h (by omega))
              go_wp2_with fail
              go_roundw
              case rel => exact ⟨j + 1, by go_num, by omega, trivial, HN2.out⟩
              case measure => simp [intOf]; omega
            · have h2I : decide ((X.length : Int) > 1) = true := by simp; omega
              have HBAD : RowKit.Hid (PlayBad s.norm n T) := Lib.hid (.inr (.inr (.inr (by
                have hpos : 0 < X.length := by omega
                obtain ⟨b0, hb⟩ : ∃ b0, b0 ∈ X := ⟨_, List.getElem_mem hpos⟩
                obtain ⟨c, hc1, hc2⟩ := another (b := b0) (by rw [HX.out]; exact bks_nodup el hp bl bl.length j : X.Nodup) (by omega)
                rw [HX.out] at hb hc1
                obtain ⟨hb1, hb3⟩ := mem_bks.1 hb
                obtain ⟨hc3, hc4⟩ := mem_bks.1 hc1
                obtain ⟨p, hp1, hp2, hp3⟩ := HSW.out.par.pi.hbk (hp := hp) hb1
                obtain ⟨q, hq1, hq2, hq3⟩ := HSW.out.par.pi.hbk (hp := hp) hc3
                have hPL := HPL.out
                rw [HM.out] at hPL
                exact ⟨inn, hp, _, p, q, hPL, hp1, hq1, by rw [← hp3, ← hq3, hb3, hc4], by rw [hp2, hq2]; exact fun e => hc2 e.symm⟩))))
              have hg := (HC.out.below HB2.out).cell
              have hgl := (HC.out.below HB2.out).lt
              have HBE := HB2
              go_wp2_with fail
              refine (faultNew_any _ _ _ _).mono ?_
              rintro e w5 ⟨rfl, rfl⟩
              go_wp2_with fail
              go_ret2
              exact ⟨.inr ⟨_, rfl, ⟨_, rfl, heap_alloc_new _ _⟩, HBAD.out⟩, HBE.out.alloc HBE.out.size _⟩
          · obtain rfl : j = mz := by omega
            have HBIG := Lib.hid (HRS.out.done (heaps_one HSW.out.par.pi HRS.out.run (by rw [← HMZ.out]; exact HNO.out)))
            have hr3 := (HR2.out.sub (List.sublist_append_right _ _))
            have HCL := Lib.hid (parClasses_any (rest := SR S K.pb n hp ga sz tl ++ rest) ⟨hr3, HSW.out.par.pi, HSW.out.par.n1⟩)
            have hx := (hr3.sub (List.sublist_append_right _ _)).sCells
            have x1 := hx.2.1
            have xl := hx.2.2.2.2.2.2.2
            rw [HXB.out] at x1 xl
            clear hr3 hx HNO hB2
            go_wp2_with fail
            refine HCL.out.mono ?_
            unfold OwnI
            rintro e w5 ⟨cv, rfl, hown, hB5⟩
            have hcl : (canon (flN n inn)).length = n := by rw [canon_len, flN_len]
            rw [hcl] at hown
            obtain ⟨cg, cc, rfl, hz1, hz2⟩ := hown.form hn0
            have HO := Lib.hid (own_mono hown HB2.out.size)
            have HB5 := Lib.hid (HB2.out.trans (hB5.mono HB2.out.size))
            clear hown hz1 hz2 hB5 hcl
            go_wp2_with fail
            go_ret2
            exact ⟨.inl ⟨inn, _, _, HBIG.out, rfl, HO.out⟩, HB5.out⟩
end Go.Proofs.YtfakdgljilmpkaaGreatDoor
