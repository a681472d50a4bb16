/-
  strong.play: smallest, by slices.MinFunc and its closure.
  strong.play.smallest: the least block of the first heap that has more than one.
  The errors: the package-level ones in memory; fault.New; system.offends, system.Check.
  errors.Is over faults: a fault of a layer wraps a package-level error; api.Code.
-/
import Derived.Test.YtmlmjhmdjieigaaGreatDoorGStrE
import Derived.Test.YtmlmjhmdjieigaaGreatDoorGStrC
import Derived.Test.YtmlmjhmdjieigaaGreatDoorGKit
import Derived.Test.YtmlmjhmdjieigaaGreatDoorGPl1
import Derived.Outline
import Derived.LaidEql
import Derived.Stop.Asserts
import Derived.RowKitTokens
namespace Go.Proofs.YtmlmjhmdjieigaaGreatDoor
open Go.RowKit Pl

section
variable {w0 w : World} {s : Lts} {K : PK} {S : SK} {n : Nat} {el pl inn : Nat → Nat} {bl : List B3} {hp ga : Nat → Nat} {sz : List Int} {tl : List Value} {rest : List Rw}

set_option maxRecDepth 100000 in
set_option maxHeartbeats 2000000 in
/-- The closure: by how much a block is greater than another one. -/
theorem less_any (h : SW w0 w s K S n el pl inn bl hp ga sz tl rest) {a b cb : Nat} (ha : a < bl.length) (hb : b < bl.length) (hc : w.cell? ⟨cb, 0, none⟩ = some (.pointer (some ⟨S.xb, 0, none⟩))) :
    Calls Tryz.prog 133 #[.int .i64 a, .int .i64 b, .pointer (some ⟨cb, 0, none⟩)] w fun e w' => e = .returned (.int .i64 (((memN n inn a).length : Int) - ((memN n inn b).length : Int))) ∧ Below w.heap.size w w' := by
  have H := Lib.hid h; have HC := Lib.hid hc
  have hn1 := h.par.n1
  have la := memN_le (n := n) inn a
  have lb := memN_le (n := n) inn b
  have hxa : bl[a]? = some bl[a] := List.getElem?_eq_getElem ha
  have hxb : bl[b]? = some bl[b] := List.getElem?_eq_getElem hb
  have cbl := World.block_lt_of_cell? _ _ hc
  have xl := h.run.sCells.2.2.2.2.2.2.2
  have KEEP : RowKit.Hid (∀ W, Below w.heap.size w W → W.cell? ⟨cb, 0, none⟩ = some (.pointer (some ⟨S.xb, 0, none⟩)) ∧ W.cell? ⟨S.xb, 1, none⟩ = some (.pointer (some ⟨K.pb, 0, none⟩)) ∧ Below w.heap.size w W) := Lib.hid (fun W hW => by
    have h2 := (H.out.call hW).run.sCells
    exact ⟨(hW.cell (p := ⟨cb, 0, none⟩) cbl).trans HC.out, h2.2.1, hW⟩)
  have CA : RowKit.Hid (∀ W, Below w.heap.size w W → Calls Tryz.prog 134 #[.pointer (some ⟨K.pb, 0, none⟩), .int .i64 a] W fun e w' => e = .returned (.int .i64 ((memN n inn a).length : Int)) ∧ Below W.heap.size W w') := Lib.hid (fun W hW =>
    parLen_any (H.out.call hW).par hxa)
  have CB : RowKit.Hid (∀ W, Below w.heap.size w W → Calls Tryz.prog 134 #[.pointer (some ⟨K.pb, 0, none⟩), .int .i64 b] W fun e w' => e = .returned (.int .i64 ((memN n inn b).length : Int)) ∧ Below W.heap.size W w') := Lib.hid (fun W hW =>
    parLen_any (H.out.call hW).par hxb)
  obtain ⟨ma, hma⟩ : ∃ ma, ma = (memN n inn a).length := ⟨_, rfl⟩
  obtain ⟨mb, hmb⟩ : ∃ mb, mb = (memN n inn b).length := ⟨_, rfl⟩
  rw [← hma] at CA la ⊢; rw [← hmb] at CB lb ⊢
  have hw : IntKind.i64.wrap ((ma : Int) - (mb : Int)) = (ma : Int) - (mb : Int) := IntWalk.i64_in _ (by omega)
  have B0 := Lib.hid (Below.refl w.heap.size w).drew
  clear h hc ha hb hxa hxb hma hmb
  go_enter Tryz.func133, Tryz.ntmps133
  go_wp2_with fail
  go_region_held3 (fun W => W.cell? ⟨cb, 0, none⟩ = some (.pointer (some ⟨S.xb, 0, none⟩)) ∧ W.cell? ⟨S.xb, 1, none⟩ = some (.pointer (some ⟨K.pb, 0, none⟩)) ∧ Below w.heap.size w W)
    (first | (exact KEEP.out _ B0.out) | (go_split_ands; exact KEEP.out _ (below_two (by assumption) (by assumption))))
    (first
      | (go_at_call_of 134 (Value.int .i64 (a : Int)); go_split_ands; refine (CA.out _ (by assumption)).mono ?_; rintro e w1 ⟨rfl, hB⟩)
      | (go_at_call_of 134 (Value.int .i64 (b : Int)); go_split_ands; refine (CB.out _ (by assumption)).mono ?_; rintro e w1 ⟨rfl, hB⟩))
  all_goals
    go_split_ands
    go_wp2_with fail
    go_ret
    exact ⟨rfl, by assumption⟩

/-- What MinFunc answers. -/
def MinPost (f : Nat → Nat) (xs : List Nat) (w : World) (e : Ending) (w' : World) : Prop := ∃ m, m ∈ xs ∧ e = .returned (.int .i64 (m : Int)) ∧ (∀ x ∈ xs, f m ≤ f x) ∧ Below w.heap.size w w'

set_option maxRecDepth 100000 in
set_option maxHeartbeats 2000000 in
theorem minFunc_any {f : Nat → Nat} {xs : List Nat} {a : Option Addr} {b c : Nat} {w : World} (hS : SlAt encI 1 w a b 0 (xs.map Int.ofNat)) (h0 : 0 < xs.length) (hl : xs.length ≤ 1000000) (hf : ∀ x ∈ xs, f x ≤ 1000000) {cb : Nat}
    (hK : ∀ W x y, Below w.heap.size w W → x ∈ xs → y ∈ xs → Calls Tryz.prog 133 #[.int .i64 (x : Int), .int .i64 (y : Int), .pointer (some ⟨cb, 0, none⟩)] W fun e w' => e = .returned (.int .i64 ((f x : Int) - (f y : Int))) ∧ Below W.heap.size W w') :
    Calls Tryz.prog 132 #[.slice a xs.length c, .func (.func 133) #[] #[.pointer (some ⟨cb, 0, none⟩)]] w (MinPost f xs w) := by
  have hpos : 0 < (xs.map Int.ofNat).length := by rw [List.length_map]; exact h0
  obtain rfl := hS.ad hpos
  have bl := hS.lt hpos
  obtain ⟨x0, hx0⟩ : ∃ x0, xs[0]? = some x0 := ⟨_, List.getElem?_eq_getElem h0⟩
  have d0 := hS.ci (i := 0) (x := (x0 : Int)) (by rw [List.getElem?_map, hx0]; rfl)
  simp only [Nat.add_zero] at d0
  have HS := Lib.hid hS; have HK := Lib.hid hK; have HF := Lib.hid hf; have HX0 := Lib.hid hx0
  obtain ⟨m, hm⟩ : ∃ m, m = xs.length := ⟨_, rfl⟩
  rw [← hm] at h0 hl ⊢
  have HM := Lib.hid hm
  have hmI : ¬ ((m : Int) < 1) := by omega
  clear hS hK hf hx0 hm hpos
  go_enter Tryz.func132, Tryz.ntmps132
  go_wp2_with fail
  clear d0
  go_loopw [5, 6] (fun v5 v6 wr => ∃ (k q : Nat), v6 = .int .i64 k ∧ v5 = .int .i64 (q : Int) ∧ 1 ≤ k ∧ k ≤ m ∧ q ∈ xs ∧ (∀ x ∈ xs.take k, f q ≤ f x) ∧ Below w.heap.size w wr) (fun _ v6 _ => m - (intOf v6).toNat)
  case atStart => exact ⟨1, x0, rfl, rfl, Nat.le_refl _, by omega, List.mem_of_getElem? HX0.out, fun x hx => by
    have e : xs.take 1 = [x0] := by rw [take_snoc (i := 0) HX0.out]; simp
    rw [e] at hx
    simp at hx; subst hx; exact Nat.le_refl _, Below.refl _ _⟩
  case round =>
    obtain ⟨k, q, rfl, rfl, hk1, hk, hq, hmin, hB⟩ := hrel
    have HQ := Lib.hid hq; have HMIN := Lib.hid hmin; have HB := Lib.hid hB
    clear hq hmin
    by_cases hkm : k < m
    · obtain ⟨x, hx⟩ : ∃ x, xs[k]? = some x := ⟨_, List.getElem?_eq_getElem (by have := HM.out; omega)⟩
      have hsl := HS.out.below hB (Nat.le_refl _)
      have d0 := hsl.ci (i := k) (x := (x : Int)) (by rw [List.getElem?_map, hx]; rfl)
      simp only [Nat.zero_add] at d0
      have dl : b < wr.heap.size := Nat.lt_of_lt_of_le bl hB.size
      have hxm := List.mem_of_getElem? hx
      have HC := Lib.hid (HK.out wr x q hB hxm HQ.out)
      have HXM := Lib.hid hxm
      have HT := Lib.hid (take_snoc hx)
      have hfx := HF.out x hxm
      have hfq := HF.out q HQ.out
      have hkI : (k : Int) < (m : Int) := by omega
      have hwr0 := hB.size
      obtain ⟨fx, hfxe⟩ : ∃ fx, fx = f x := ⟨_, rfl⟩
      obtain ⟨fq, hfqe⟩ : ∃ fq, fq = f q := ⟨_, rfl⟩
      rw [← hfxe] at HC hfx; rw [← hfqe] at HC hfq
      have HFX := Lib.hid hfxe; have HFQ := Lib.hid hfqe
      clear hx hsl hxm hB hfxe hfqe
      by_cases hlt : fx < fq
      · have hltI : (fx : Int) - (fq : Int) < 0 := by omega
        have hd : decide ((fx : Int) - (fq : Int) < 0) = true := by simp; omega
        go_wp2_with fail
        refine HC.out.mono ?_
        rintro e w2 ⟨rfl, hB2⟩
        have HB2 := Lib.hid (HB.out.trans (hB2.mono hwr0))
        have e0 : w2.cell? ⟨b, k, none⟩ = some (.int .i64 (x : Int)) := by rw [hB2.cell (p := ⟨b, k, none⟩) dl]; exact d0
        have el : b < w2.heap.size := Nat.lt_of_lt_of_le dl hB2.size
        have HMN : RowKit.Hid (∀ z ∈ xs.take (k + 1), f x ≤ f z) := Lib.hid (fun z hz => by
          rw [HT.out] at hz
          rcases List.mem_append.1 hz with hz | hz
          · have := HMIN.out z hz; have h1 := HFX.out; have h2 := HFQ.out; omega
          · simp at hz; subst hz; exact Nat.le_refl _)
        clear hB2 HC d0 HMIN
        go_wp2_with fail
        go_roundw
        case rel => exact ⟨k + 1, x, by go_num, rfl, by omega, by omega, HXM.out, HMN.out, HB2.out⟩
        case measure => simp [intOf]; omega
      · have hltI : ¬ ((fx : Int) - (fq : Int) < 0) := by omega
        have hd : decide ((fx : Int) - (fq : Int) < 0) = false := by simp; omega
        go_wp2_with fail
        refine HC.out.mono ?_
        rintro e w2 ⟨rfl, hB2⟩
        have HB2 := Lib.hid (HB.out.trans (hB2.mono hwr0))
        have HMN : RowKit.Hid (∀ z ∈ xs.take (k + 1), f q ≤ f z) := Lib.hid (fun z hz => by
          rw [HT.out] at hz
          rcases List.mem_append.1 hz with hz | hz
          · exact HMIN.out z hz
          · simp at hz; subst hz; have h1 := HFX.out; have h2 := HFQ.out; omega)
        clear hB2 HC d0 HMIN
        go_wp2_with fail
        go_roundw
        case rel => exact ⟨k + 1, q, by go_num, rfl, by omega, by omega, HQ.out, HMN.out, HB2.out⟩
        case measure => simp [intOf]; omega
    · obtain rfl : k = m := by omega
      have hmn := HMIN.out
      rw [HM.out, List.take_length] at hmn
      have HMN := Lib.hid hmn
      clear hmn HMIN
      go_wp2_with fail
      go_ret
      exact ⟨q, HQ.out, rfl, HMN.out, HB.out⟩
end
end Go.Proofs.YtmlmjhmdjieigaaGreatDoor

namespace Go.Proofs.YtmlmjhmdjieigaaGreatDoor
open Go.RowKit Pl

namespace Pl
theorem another {l : List Nat} (hn : l.Nodup) (h2 : 2 ≤ l.length) {b : Nat} : ∃ c, c ∈ l ∧ c ≠ b := by
  apply Classical.byContradiction
  intro h
  have := nodup_le (l := l) (m := [b]) hn (fun x hx => by
    rcases Classical.em (x = b) with e | e
    · simp [e]
    · exact absurd ⟨x, hx, e⟩ h)
  simp at this; omega
theorem bks_nodup (el hp : Nat → Nat) (bl : List B3) (k h : Nat) : (bksOf el hp bl k h).Nodup := List.Pairwise.filter _ List.nodup_range
end Pl

section
variable {w0 w : World} {s : Lts} {K : PK} {S : SK} {n : Nat} {el pl inn : Nat → Nat} {bl : List B3} {hp ga : Nat → Nat} {sz : List Int} {tl : List Value} {rest : List Rw}

def SmallPost (w0 : World) (K : PK) (S : SK) (n : Nat) (el pl inn : Nat → Nat) (bl : List B3) (hp ga : Nat → Nat) (sz : List Int) (tl : List Value) (rest : List Rw) (e : Ending) (w' : World) : Prop :=
  (e = .returned (.slice none 0 0) ∧ (∀ h, h < sz.length → (bksOf el hp bl bl.length h).length < 2) ∧ Rws w0 w' (PR K n el pl inn bl ++ (SR S K.pb n hp ga sz tl ++ rest))) ∨
  ∃ b c g cap : Nat, e = .returned (.slice (some ⟨g, 0, none⟩) (memN n inn b).length cap) ∧ b < bl.length ∧ c < bl.length ∧ b ≠ c ∧ hbk el hp bl b = hbk el hp bl c ∧ (memN n inn b).length ≤ (memN n inn c).length ∧ 0 < (memN n inn b).length ∧
    Rws w0 w' (⟨3, 1, .slice (some ⟨g, 0, none⟩) (memN n inn b).length cap, (memN n inn b).length, ((memN n inn b).map Int.ofNat).flatMap encI⟩ :: (PR K n el pl inn bl ++ (SR S K.pb n hp ga sz tl ++ rest)))

set_option maxRecDepth 100000 in
set_option maxHeartbeats 4000000 in
theorem smallest_any (h : SW w0 w s K S n el pl inn bl hp ga sz tl rest) (hz : sz.length ≤ 1000) (hz0 : 0 < sz.length) (hh : ∀ p, p < n → hp p < sz.length) :
    Calls Tryz.prog 99 #[.pointer (some ⟨S.xb, 0, none⟩)] w (SmallPost w0 K S n el pl inn bl hp ga sz tl rest) := by
  have H := Lib.hid h
  have hn1 := h.par.n1
  have hfew := h.par.pi.few
  have hb := h.par.rws.addLit #[.pointer (some ⟨S.xb, 0, none⟩)] 147 (k := 1) (n := 1) (by unfold maxLen; omega) rfl
  have hsw : SW w0 (w.alloc (.cells #[.pointer (some ⟨S.xb, 0, none⟩)] 147)) s K S n el pl inn bl hp ga sz tl (⟨147, 1, .slice (some ⟨w.heap.size, 0, none⟩) 1 1, 1, [.pointer (some ⟨S.xb, 0, none⟩)]⟩ :: rest) := ⟨⟨hb.dig, h.par.pi, hn1⟩, h.gr, h.st⟩
  have HB := Lib.hid (blocks_any hsw hz hz0 hh)
  obtain ⟨cb, hcb⟩ : ∃ cb, cb = w.heap.size := ⟨_, rfl⟩
  rw [← hcb] at HB
  obtain ⟨m, hm⟩ : ∃ m, m = sz.length := ⟨_, rfl⟩
  rw [← hm] at hz hz0
  have HM := Lib.hid hm
  clear h hb hsw hh hm
  go_enter Tryz.func99, Tryz.ntmps99
  go_wp2_with fail
  refine HB.out.mono ?_
  unfold BlocksPost
  rw [← HM.out]
  rintro e w2 ⟨ob, vs, rfl, hr2, _⟩
  have HR2 := Lib.hid hr2
  rw [← hcb]
  have c0 : w2.cell? ⟨cb, 0, none⟩ = some (.pointer (some ⟨S.xb, 0, none⟩)) := (hr2.sub ((List.sublist_append_right _ _).trans ((List.sublist_append_right _ _).trans (List.sublist_append_right _ _)))).cell (i := 0) rfl rfl
  have cl := World.block_lt_of_cell? _ _ c0
  clear hr2 hcb HB
  go_wp2_with fail
  go_loopw [4, 5, 6, 7, 11] (fun _ _ _ _ v11 wr => ∃ k : Nat, v11 = .int .i64 k ∧ k ≤ m ∧ wr = w2 ∧ ∀ h, h < k → (bksOf el hp bl bl.length h).length < 2) (fun _ _ _ _ v11 _ => m - (intOf v11).toNat)
  case atStart => exact ⟨0, rfl, Nat.zero_le _, rfl, fun h hh => by omega⟩
  case round =>
    obtain ⟨k, rfl, hk, rfl, hno⟩ := hrel
    have HNO := Lib.hid hno
    clear hno
    by_cases hkm : k < m
    · obtain ⟨q0, _, ql, _⟩ := HR2.out.frCell (l := k) hkm
      obtain ⟨xa, xc, xb0, hxv, _, _, hxs, _⟩ := slAt_own lenI (HR2.out.frOwn (l := k) hkm)
      have hbl := bks_len el hp bl bl.length k
      have hlm : ((bksOf el hp bl bl.length k).map Int.ofNat).length = (bksOf el hp bl bl.length k).length := List.length_map ..
      rw [hlm] at hxv
      rw [hxv] at q0
      have HXS := Lib.hid hxs
      obtain ⟨X, hX⟩ : ∃ X, X = bksOf el hp bl bl.length k := ⟨_, rfl⟩
      rw [← hX] at q0 hbl HXS
      have HX := Lib.hid hX
      have hkI : (k : Int) < (m : Int) := by omega
      clear hxv hxs hlm hX
      by_cases h2 : X.length < 2
      · have h2I : (X.length : Int) < 2 := by omega
        have hn2 : ∀ h, h < k + 1 → (bksOf el hp bl bl.length h).length < 2 := fun h hh => by
          by_cases e : h = k
          · subst e; rw [← HX.out]; exact h2
          · exact HNO.out h (by omega)
        have HN2 := Lib.hid hn2
        clear hn2
        go_wp2_with fail
        go_roundw
        case rel => exact ⟨k + 1, by go_num, by omega, trivial, HN2.out⟩
        case measure => simp [intOf]; omega
      · have h2I : ¬ (X.length : Int) < 2 := by omega
        have hX0 : 0 < X.length := by omega
        have SWW : RowKit.Hid (∀ V, Below wr.heap.size wr V → SW w0 V s K S n el pl inn bl hp ga sz tl (⟨147, 1, .slice (some ⟨cb, 0, none⟩) 1 1, 1, [.pointer (some ⟨S.xb, 0, none⟩)]⟩ :: rest)) := Lib.hid (fun V hV =>
          ⟨⟨(HR2.out.call hV).sub (List.sublist_append_right _ _), H.out.par.pi, hn1⟩, H.out.gr, H.out.st⟩)
        have hxr : ∀ x ∈ X, x < bl.length := fun x hx => by rw [HX.out] at hx; exact (mem_bks.1 hx).1
        have HMF := Lib.hid (minFunc_any (f := fun b => (memN n inn b).length) (xs := X) (c := xc) (cb := cb) HXS.out hX0 (by omega) (fun x _ => Nat.le_trans (memN_le _ _) (by omega)) (fun V x y hV hx hy =>
          less_any (SWW.out V hV) (hxr x hx) (hxr y hy) ((hV.cell (p := ⟨cb, 0, none⟩) cl).trans c0)))
        have HXR := Lib.hid hxr
        clear hxr
        go_wp2_with fail
        refine HMF.out.mono ?_
        unfold MinPost
        rintro e w3 ⟨b, hbx, rfl, hmin, hB3⟩
        have hbl2 := HXR.out b hbx
        have hsw3 := SWW.out w3 hB3
        have HMB := Lib.hid (members_any hsw3.par hbl2)
        have c1 : w3.cell? ⟨cb, 0, none⟩ = some (.pointer (some ⟨S.xb, 0, none⟩)) := (hB3.cell (p := ⟨cb, 0, none⟩) cl).trans c0
        have cl1 := World.block_lt_of_cell? _ _ c1
        obtain ⟨_, x1, _, _, _, _, _, xl⟩ := hsw3.run.sCells
        have HSW3 := Lib.hid hsw3; have HMIN := Lib.hid hmin; have HBX := Lib.hid hbx
        clear hmin hbx hB3 hsw3 c0 cl q0 ql HMF SWW
        go_wp2_with fail
        refine HMB.out.mono ?_
        unfold MembersPost
        rintro e w4 ⟨v, rfl, hown, hB4⟩
        have hpos : 0 < (memN n inn b).length := by
          obtain ⟨p, hp1, hp2, _⟩ := HSW3.out.par.pi.hbk (hp := hp) hbl2
          exact List.length_pos_of_mem (mem_memN.2 ⟨hp1, hp2⟩)
        have hadd := HSW3.out.par.rws.add hB4 hown
        have hlm : ((memN n inn b).map Int.ofNat).length = (memN n inn b).length := List.length_map ..
        rw [hlm] at hadd hown
        obtain ⟨g, cap, rfl, _, _⟩ := hown.form hpos
        obtain ⟨c, hc1, hc2⟩ := another (b := b) (by rw [HX.out]; exact bks_nodup el hp bl bl.length k : X.Nodup) (by omega)
        have hcb2 := HBX.out; have hcc2 := hc1
        rw [HX.out] at hcb2 hcc2
        have hfin : SmallPost w0 K S n el pl inn bl hp ga sz tl rest (.returned (.slice (some ⟨g, 0, none⟩) (memN n inn b).length cap)) w4 := .inr ⟨b, c, g, cap, rfl, hbl2, HXR.out c hc1, fun e => hc2 e.symm, by rw [(mem_bks.1 hcb2).2, (mem_bks.1 hcc2).2], HMIN.out c hc1, hpos,
          hadd.sub (.cons_cons _ ((List.Sublist.refl _).append ((List.Sublist.refl _).append (List.sublist_cons_self _ _))))⟩
        have HFIN := Lib.hid hfin
        clear hpos hadd hlm hown hc1 hc2 hcb2 hcc2 hfin hB4 HMB x1 xl c1 cl1
        go_wp2_with fail
        go_ret
        exact HFIN.out
    · obtain rfl : k = m := by omega
      have hfin : SmallPost w0 K S n el pl inn bl hp ga sz tl rest (.returned (.slice none 0 0)) wr := .inl ⟨rfl, by rw [← HM.out]; exact HNO.out, HR2.out.sub (((List.Sublist.refl _).append ((List.Sublist.refl _).append (List.sublist_cons_self _ _))).trans (List.sublist_append_right _ _))⟩
      have HFIN := Lib.hid hfin
      clear hfin HNO
      go_wp2_with fail
      go_ret
      exact HFIN.out
end
end Go.Proofs.YtmlmjhmdjieigaaGreatDoor

namespace Go.Proofs.YtmlmjhmdjieigaaGreatDoor
open Go.RowKit Pl

theorem faultNew_any (s : ByteArray) (t : TypeId) (v : Value) (w : World) : Calls Tryz.prog 52 #[.string s, .iface t v] w fun e w' =>
    e = .returned (.iface 92 (.pointer (some ⟨w.heap.size, 0, none⟩))) ∧ w' = w.alloc (.cells #[.string s, .int .i64 0, .int .i64 0, .iface t v] 97) := by
  go_enter Tryz.func52, Tryz.ntmps52
  go_wp2
  go_ret
  exact ⟨rfl, rfl⟩

/-- A package-level error: a pointer. -/
structure GErr (g : Nat) (p : Addr) (w : World) : Prop where
  lt : g < w.heap.size
  cell : w.cell? ⟨g, 0, none⟩ = some (.iface 244 (.pointer (some p)))

theorem GErr.below {g : Nat} {p : Addr} {w w' : World} (h : GErr g p w) (hB : Below w.heap.size w w') : GErr g p w' :=
  ⟨Nat.lt_of_lt_of_le h.lt hB.size, by rw [hB.cell (p := ⟨g, 0, none⟩) h.lt]; exact h.cell⟩

/-- A fault of a layer, without a place. -/
structure FaultAt (w : World) (v : Value) (layer : ByteArray) (inner : Value) : Prop where
  ex : ∃ b, v = .iface 92 (.pointer (some ⟨b, 0, none⟩)) ∧ w.heap[b]? = some (.cells #[.string layer, .int .i64 0, .int .i64 0, inner] 97 (0, 0))

theorem offends_any (st lb s0 : Int) (es : Value) (x : E) (w : World) :
    Calls Tryz.prog 58 #[.agg #[.int .i64 st, .int .i64 lb, .int .i64 s0, es], .agg #[.int .i64 x.1, .int .i64 x.2.1, .int .i64 x.2.2]] w fun e w' =>
      e = .returned (.bool (offB st lb x)) ∧ Below w.heap.size w w' := by
  unfold offB
  go_enter Tryz.func58, Tryz.ntmps58
  go_wp2
  all_goals (go_ret; exact ⟨by simp [*]; try omega, ((Below.refl _ _).alloc (Nat.le_refl _) _).alloc (by simp) _⟩)

set_option maxRecDepth 100000 in
set_option maxHeartbeats 1000000 in
theorem check_head {p : Addr} (st lb s0 : Int) (a : Option Addr) (n c : Nat) (w : World) (hG : GErr 10 p w) (h : HeadBad st lb s0 n) :
    Calls Tryz.prog 24 #[.agg #[.int .i64 st, .int .i64 lb, .int .i64 s0, .slice a n c]] w fun e w' => ∃ v, e = .returned v ∧ FaultAt w' v ⟨#[115, 121, 115, 116, 101, 109]⟩ (.iface 244 (.pointer (some p))) ∧ Below w.heap.size w w' := by
  unfold HeadBad at h
  have hg := hG.cell
  have hlt := hG.lt
  go_enter Tryz.func24, Tryz.ntmps24
  go_wp2_with (go_at_call 52; refine (faultNew_any _ _ _ _).mono ?_; rintro e w1 ⟨rfl, rfl⟩)
  all_goals (go_ret; exact ⟨_, rfl, ⟨w.heap.size + 1, rfl, by simpa using heap_alloc_new (w.alloc (.cells #[.int .i64 st, .int .i64 lb, .int .i64 s0, .slice a n c] 24)) (.cells #[.string ⟨#[115, 121, 115, 116, 101, 109]⟩, .int .i64 0, .int .i64 0, .iface 244 (.pointer (some p))] 97)⟩, ((Below.refl _ _).alloc (Nat.le_refl _) _).alloc (by simp) _⟩)

/-- What system.Check answers where the head is right. -/
def CheckPost (st lb : Int) (xs : List E) (p : Addr) (e : Ending) (w' : World) : Prop :=
  if xs.all (fun x => !offB st lb x) then e = .returned .nilIface else ∃ v, e = .returned v ∧ FaultAt w' v ⟨#[115, 121, 115, 116, 101, 109]⟩ (.iface 244 (.pointer (some p)))

set_option maxRecDepth 100000 in
set_option maxHeartbeats 1000000 in
/-- system.Check, the head of the system being right. -/
theorem check_body {p : Addr} (st lb s0 : Int) (a : Option Addr) (b off c : Nat) (xs : List E) (w : World) (hG : GErr 10 p w) (h : ¬ HeadBad st lb s0 xs.length) (hS : SlAt encE 3 w a b off xs) :
    Calls Tryz.prog 24 #[.agg #[.int .i64 st, .int .i64 lb, .int .i64 s0, .slice a xs.length c]] w fun e w' =>
      CheckPost st lb xs p e w' ∧ Below w.heap.size w w' := by
  unfold HeadBad at h
  have hg := hG.cell
  have hlt := hG.lt
  obtain ⟨h1, h2, h3, h4, h5, h6, h7⟩ : 0 ≤ st ∧ st ≤ 1000 ∧ 1 ≤ lb ∧ lb ≤ 201 ∧ 0 ≤ s0 ∧ (s0 = 0 ∨ s0 < st) ∧ (xs.length : Int) ≤ 10000 := by omega
  clear h
  obtain ⟨C, hC⟩ : ∃ C, C = Obj.cells #[.int .i64 st, .int .i64 lb, .int .i64 s0, .slice a xs.length c] 24 := ⟨_, rfl⟩
  obtain ⟨F, hF⟩ : ∃ F, F = Obj.cells #[.string ⟨#[115, 121, 115, 116, 101, 109]⟩, .int .i64 0, .int .i64 0, .iface 244 (.pointer (some p))] 97 := ⟨_, rfl⟩
  have HC := Lib.hid hC; have HF := Lib.hid hF
  clear hC hF
  go_enter Tryz.func24, Tryz.ntmps24
  go_wp2_with (go_at_call 52; refine (faultNew_any _ _ _ _).mono ?_; rintro e w1 ⟨rfl, rfl⟩)
  all_goals
    rw [← HC.out, ← HF.out]
    go_loopw [5, 54] (fun _ i wr => ∃ k : Nat, k ≤ xs.length ∧ i = .int .i64 k ∧ (∀ j x, j < k → xs[j]? = some x → offB st lb x = false) ∧ Below (w.heap.size + 2) ((w.alloc C).alloc F) wr)
      (fun _ i _ => xs.length - (intOf i).toNat)
    case atStart => exact ⟨0, Nat.zero_le _, rfl, by intro j x hj; omega, Below.refl _ _⟩
    case round =>
      obtain ⟨k, hk, rfl, hz, hB⟩ := hrel
      have HZ := Lib.hid hz; clear hz
      have hsz : w.heap.size + 2 ≤ wr.heap.size := by simpa using hB.size
      have q0 : wr.heap[w.heap.size]? = some C := by
        rw [hB.block _ (by omega), Below.heap_alloc _ _ _ (by simp), heap_alloc_new]
      have q1 : wr.heap[w.heap.size + 1]? = some F := by
        rw [hB.block _ (by omega)]; simpa using heap_alloc_new (w.alloc C) F
      rw [HC.out] at q0; rw [HF.out] at q1
      have s0' : wr.cell? ⟨w.heap.size, 0, none⟩ = some (.int .i64 st) := by simp [World.cell?, q0]
      have s1' : wr.cell? ⟨w.heap.size, 1, none⟩ = some (.int .i64 lb) := by simp [World.cell?, q0]
      have s2' : wr.cell? ⟨w.heap.size, 2, none⟩ = some (.int .i64 s0) := by simp [World.cell?, q0]
      have s3' : wr.cell? ⟨w.heap.size, 3, none⟩ = some (.slice a xs.length c) := by simp [World.cell?, q0]
      have Q1 := Lib.hid q1
      have hBw : Below w.heap.size w wr := (((Below.refl _ _).alloc (Nat.le_refl _) C).alloc (by simp) F).trans (hB.mono (by omega))
      have hltr : w.heap.size < wr.heap.size := by omega
      clear q0 q1
      by_cases hlt2 : k < xs.length
      · obtain ⟨x, hx⟩ := getElem?_of_lt hlt2
        obtain rfl := hS.ad (by omega)
        have hS' := hS.below hBw (Nat.le_refl _)
        have c0 := hS'.e0 hx; have c1 := hS'.e1 hx; have c2 := hS'.e2 hx
        have hbl := hS'.lt (by omega)
        have HX := Lib.hid hx
        have HS := Lib.hid hS
        clear hx hS hS' hg
        by_cases ho : offB st lb x = true
        · have HO := Lib.hid ho
          go_wp2_with (go_at_call 58; refine (offends_any st lb s0 _ x _).mono ?_; rintro e w1 ⟨rfl, hB1⟩)
          go_ret
          have hall : xs.all (fun x => !offB st lb x) = false := by
            rw [List.all_eq_false]
            exact ⟨x, List.mem_of_getElem? HX.out, by simp [HO.out]⟩
          have hB2 := (hB.alloc hsz _).trans (hB1.mono (by simp; omega))
          refine ⟨by unfold CheckPost; rw [hall]; exact ⟨_, rfl, ⟨w.heap.size + 1, rfl, by rw [hB2.block _ (by omega), ← HF.out]; simpa using heap_alloc_new (w.alloc C) F⟩⟩, (((Below.refl _ _).alloc (Nat.le_refl _) C).alloc (by simp) F).trans (hB2.mono (by omega))⟩
        · have ho' : offB st lb x = false := by simpa using ho
          have HO := Lib.hid ho'
          clear ho
          go_wp2_with (go_at_call 58; refine (offends_any st lb s0 _ x _).mono ?_; rintro e w1 ⟨rfl, hB1⟩)
          go_roundw
          case rel => exact ⟨k + 1, by omega, by go_num, by
            intro j y hj hy
            by_cases hjk : j = k
            · subst hjk
              rw [HX.out] at hy
              simp at hy; subst hy
              exact HO.out
            · exact HZ.out j y (by omega) hy, (hB.alloc hsz _).trans (hB1.mono (by simp; omega))⟩
          case measure => simp [intOf]; omega
      · clear hS hg
        go_wp2
        go_ret
        have hall : xs.all (fun x => !offB st lb x) = true := by
          rw [List.all_eq_true]
          intro x hx
          obtain ⟨j, hj, rfl⟩ := List.getElem_of_mem hx
          simp [HZ.out j _ (by omega) (List.getElem?_eq_getElem hj)]
        exact ⟨by unfold CheckPost; rw [hall]; rfl, hBw⟩

end Go.Proofs.YtmlmjhmdjieigaaGreatDoor

namespace Go.Proofs.YtmlmjhmdjieigaaGreatDoor
open Go.RowKit Go.Extern.Stop Go.Stop Go.Extern Pl

/-! closed facts: what TypeOf(target).Comparable() gives at such a target; what the assertions find -/
theorem isTypeOf (v : Value) (w : World) : (callFunc 79 #[.iface 244 v]).run Tryz.prog w = .ok (.value (.iface 171 (.agg #[.pointer (some ⟨23, 244, none⟩)]))) w := by kernel_rfl
theorem isComparable (w : World) : (callFunc 207 #[.agg #[.pointer (some ⟨23, 244, none⟩)]]).run Tryz.prog w = .ok (.value (.bool true)) w := by kernel_rfl
theorem isMethodComparable (v : Value) (w : World) : (Go.method 376 171 v "Comparable").run Tryz.prog w = .ok (207, v) w := by kernel_rfl
theorem isComp : (Tryz.prog.info? 244).map (·.comparable) = some true := by kernel_rfl
theorem isSize : (Tryz.prog.info? 264).map (·.size) = some 1 := by kernel_rfl
theorem noIsE (v : Value) (xT : TypeId) (w : World) : (Instr.typeAssert (.iface 244 v) xT 173 true).run Tryz.prog w = .ok (.tuple #[.nilIface, .bool false]) w := run_typeAssert_lacksB Tryz.underlying173 (by kernel_rfl) (by kernel_rfl) v xT w
theorem noUnwrapE (v : Value) (xT : TypeId) (w : World) : (Instr.typeAssert (.iface 244 v) xT 176 true).run Tryz.prog w = .ok (.tuple #[.nilIface, .bool false]) w := run_typeAssert_lacksB Tryz.underlying176 (by kernel_rfl) (by kernel_rfl) v xT w
theorem noUnwrapsE (v : Value) (xT : TypeId) (w : World) : (Instr.typeAssert (.iface 244 v) xT 178 true).run Tryz.prog w = .ok (.tuple #[.nilIface, .bool false]) w := run_typeAssert_lacksB Tryz.underlying178 (by kernel_rfl) (by kernel_rfl) v xT w
theorem noIsW (v : Value) (xT : TypeId) (w : World) : (Instr.typeAssert (.iface 92 v) xT 173 true).run Tryz.prog w = .ok (.tuple #[.nilIface, .bool false]) w := run_typeAssert_lacksB Tryz.underlying173 (by kernel_rfl) (by kernel_rfl) v xT w
theorem hasUnwrapW (v : Value) (xT : TypeId) (w : World) : (Instr.typeAssert (.iface 92 v) xT 176 true).run Tryz.prog w = .ok (.tuple #[.iface 92 v, .bool true]) w := run_typeAssert_hasB Tryz.underlying176 (by kernel_rfl) v xT w
theorem methodUnwrap (v : Value) (w : World) : (Go.method 376 92 v "Unwrap").run Tryz.prog w = .ok (201, v) w := by kernel_rfl

/-- (*Fault).Unwrap. -/
theorem unwrap_any {b : Nat} {inner : Value} {w : World} (h : w.cell? ⟨b, 3, none⟩ = some inner) :
    Calls Tryz.prog 201 #[.pointer (some ⟨b, 0, none⟩)] w fun e w' => e = .returned inner ∧ w = w' := by
  go_enter Tryz.func201, Tryz.ntmps201
  go_wp2
  go_ret
  exact ⟨rfl, rfl⟩

/-- errors.Is(nil, x). -/
theorem is_nil (b : Addr) (w : World) :
    Calls Tryz.prog 54 #[.nilIface, .iface 244 (.pointer (some b))] w fun e w' => e = .returned (.bool false) ∧ w = w' := by
  have hn := run_eql_iface_nil_left (P := Tryz.prog) w 244 (.pointer (some b)) Tryz.underlying29
  go_enter Tryz.func54, Tryz.ntmps54
  go_wp2
  go_ret
  exact ⟨rfl, rfl⟩

set_option maxRecDepth 100000 in
/-- errors.Is(a fault that wraps x itself, x). -/
theorem is_fault_same (pb : Nat) (b : Addr) (w : World) (h1 : w.cell? ⟨pb, 3, none⟩ = some (.iface 244 (.pointer (some b)))) :
    Calls Tryz.prog 54 #[.iface 92 (.pointer (some ⟨pb, 0, none⟩)), .iface 244 (.pointer (some b))] w fun e w' => e = .returned (.bool true) ∧ w = w' := by
  obtain ⟨i, hi, hcmp⟩ := Option.map_eq_some_iff.1 isComp
  obtain ⟨j, hj, hjs⟩ := Option.map_eq_some_iff.1 isSize
  have tT := isTypeOf
  have cT := isComparable
  have mR := isMethodComparable
  have nE := noIsE
  have uE := noUnwrapE
  have vE := noUnwrapsE
  have nW := noIsW
  have uW := hasUnwrapW
  have mU := methodUnwrap
  have heq := run_eql_iface_ptr_same (P := Tryz.prog) w b Tryz.underlying29 Tryz.underlying244 hi hcmp hj
  have hty := run_eql_iface_types (P := Tryz.prog) 92 244 (.pointer (some ⟨pb, 0, none⟩)) (.pointer (some b)) Tryz.underlying29 (by decide) w
  go_enter Tryz.func54, Tryz.ntmps54
  go_wp2
  refine wp_loop_rounds 2 ?_
  rw [rounds_succ]
  go_wp2
  rw [rounds_succ]
  go_wp2
  go_ret
  exact ⟨rfl, rfl⟩

set_option maxRecDepth 100000 in
/-- errors.Is(a fault that wraps another error, x). -/
theorem is_fault_other (pb : Nat) (b a : Addr) (ca cb : Array Value) (ta tb : TypeId) (w : World) (h1 : w.cell? ⟨pb, 3, none⟩ = some (.iface 244 (.pointer (some a)))) (hne : a ≠ b) (ha : w.heap[a.block]? = some (.cells ca ta (0, 0))) (hb : w.heap[b.block]? = some (.cells cb tb (0, 0))) :
    Calls Tryz.prog 54 #[.iface 92 (.pointer (some ⟨pb, 0, none⟩)), .iface 244 (.pointer (some b))] w fun e w' => e = .returned (.bool false) ∧ w = w' := by
  obtain ⟨i, hi, hcmp⟩ := Option.map_eq_some_iff.1 isComp
  obtain ⟨j, hj, hjs⟩ := Option.map_eq_some_iff.1 isSize
  have tT := isTypeOf
  have cT := isComparable
  have mR := isMethodComparable
  have nE := noIsE
  have uE := noUnwrapE
  have vE := noUnwrapsE
  have nW := noIsW
  have uW := hasUnwrapW
  have mU := methodUnwrap
  have heq := run_eql_iface_ptr_other (P := Tryz.prog) w Tryz.underlying29 Tryz.underlying244 hi hcmp hj (by rw [hjs]; decide) hne ha hb
  have hty := run_eql_iface_types (P := Tryz.prog) 92 244 (.pointer (some ⟨pb, 0, none⟩)) (.pointer (some b)) Tryz.underlying29 (by decide) w
  go_enter Tryz.func54, Tryz.ntmps54
  go_wp2
  refine wp_loop_rounds 2 ?_
  rw [rounds_succ]
  go_wp2
  rw [rounds_succ]
  go_wp2
  go_ret
  exact ⟨rfl, rfl⟩
end Go.Proofs.YtmlmjhmdjieigaaGreatDoor
