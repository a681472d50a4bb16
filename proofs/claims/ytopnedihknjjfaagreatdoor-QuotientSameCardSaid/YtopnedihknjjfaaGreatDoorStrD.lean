/-
  strong.play: begin, the first taking.
-/
import Derived.Test.YtopnedihknjjfaaGreatDoorStrB
import Derived.Test.YtopnedihknjjfaaGreatDoorStrC
namespace Go.Proofs.YtopnedihknjjfaaGreatDoor
open Go.RowKit Pl

def blkOf : Option Addr → Nat
  | some a => a.block
  | none => 0

section
variable {w0 w w1 w2 : World} {L A B C : List Rw} {r : Rw}
/-- A row reads as a list, its block told by its slice. -/
theorem Rws.slO (h : Rws w0 w L) {α : Type} {enc : α → List Value} {i : Nat} {T : TypeId} {k n m c : Nat} {ra : Option Addr} {ys : List α} (hi : L[i]? = some ⟨T, k, .slice ra m c, n, ys.flatMap enc⟩) (hk : ∀ x, (enc x).length = k) (hn : n = ys.length) : SlAt enc k w ra (blkOf ra) 0 ys := by
  obtain ⟨a, c', b, hv, _, _, hs, _⟩ := h.sl hi hk hn
  simp only [Value.slice.injEq] at hv
  obtain ⟨rfl, _, _⟩ := hv
  rcases Nat.eq_zero_or_pos ys.length with h0 | h0
  · rw [List.eq_nil_of_length_eq_zero h0]; exact slAt_nil _ _ _ _
  · have := hs.ad h0
    subst this
    exact hs
theorem Rws.dig (h : Rws w0 w (r :: (A ++ (B ++ C)))) : Rws w0 w (A ++ (B ++ (r :: C))) := h.perm (by
  refine (List.perm_middle (l₁ := A)).symm.trans (List.Perm.append_left A ?_)
  exact (List.perm_middle (l₁ := B)).symm)
theorem Rws.dug (h : Rws w0 w (A ++ (B ++ (r :: C)))) : Rws w0 w (r :: (A ++ (B ++ C))) := h.perm (by
  refine List.Perm.trans (List.Perm.append_left A ?_) (List.perm_middle (l₁ := A))
  exact (List.perm_middle (l₁ := B)))
/-- A row of numbers at the head has grown by one. -/
theorem Rws.headGrow {a : Option Addr} {m c : Nat} {ys : List Int} {x : Int} (h : Rws w0 w (⟨3, 1, .slice a m c, m, ys.flatMap encI⟩ :: L)) (hB2 : Below w.heap.size w w2) {g c' : Nat} (ho : w1.ownsRow w0.heap.size 3 1 (.slice (some ⟨g, 0, none⟩) (m + 1) c') (m + 1) (ys.flatMap encI ++ [.int .i64 x]))
    (hg : w2.grownBy w1 (Value.slice a m c).ownBlock) (hh : (Value.slice a m c).ownBlock = some g ∨ w.heap.size ≤ g) : Rws w0 w1 (⟨3, 1, .slice (some ⟨g, 0, none⟩) (m + 1) c', m + 1, (ys ++ [x]).flatMap encI⟩ :: L) := by
  have hs := h.grown hB2 0 rfl ho hg (fun g' hg' => by simp only [Value.ownBlock, Option.some.injEq] at hg'; subst hg'; exact hh)
  have e : (ys ++ [x]).flatMap encI = ys.flatMap encI ++ [.int .i64 x] := by rw [List.flatMap_append]; rfl
  rw [e]
  exact hs
end

section
variable {w0 w : World} {s : Lts} {K : PK} {S : SK} {n : Nat} {el pl inn : Nat → Nat} {bl : List B3} {hp ga : Nat → Nat} {sz : List Int} {tl : List Value} {rest : List Rw}

/-- What begin leaves. -/
def BeginPost (w0 : World) (s : Lts) (K : PK) (S : SK) (n : Nat) (inn hp ga : Nat → Nat) (tl : List Value) (rest : List Rw) (e : Ending) (w' : World) : Prop :=
  e = .returned (.tuple #[]) ∧ ∃ (K' : PK) (S' : SK) (el' pl' inn' : Nat → Nat) (bl' : List B3) (aa : Option Addr) (ac : Nat),
    SW w0 w' s K' S' n el' pl' inn' bl' hp (fun p => if p ∈ List.range n then ga p + 1 else ga p) [(n : Int)] (tl ++ [.slice aa n ac]) (⟨3, 1, .slice aa n ac, n, (flN n id).flatMap encI⟩ :: rest) ∧
    K'.pb = K.pb ∧ S'.xb = S.xb ∧ (∀ z, z < n → ¬ Mkd pl' inn' bl' z) ∧ SplitBy s n (· ∈ List.range n) inn inn'

set_option maxRecDepth 100000 in
set_option maxHeartbeats 4000000 in
theorem begin_any (h : SW w0 w s K S n el pl inn bl hp ga sz tl rest) (hun : ∀ z, z < n → ¬ Mkd pl inn bl z) (hga : ∀ p, p < n → ga p ≤ 1000000) (htl : tl.length ≤ 1000000) :
    Calls Tryz.prog 89 #[.pointer (some ⟨S.xb, 0, none⟩)] w (BeginPost w0 s K S n inn hp ga tl rest) := by
  have H := Lib.hid h; have HUN := Lib.hid hun; have HGA := Lib.hid hga
  have hn1 := h.par.n1
  obtain ⟨c0, c1, c2, c3, c4, c5, c6, xl⟩ := h.run.sCells
  have H0 := Lib.hid (h.par.rws.addNil 3 1)
  clear h hun hga c0 c1 c3 c4 c5 c6
  go_enter Tryz.func89, Tryz.ntmps89
  go_wp2_with fail
  clear c2
  go_loopw [2, 3, 9] (fun v2 _ v9 wr => ∃ (k : Nat) (aa : Option Addr) (ac : Nat), v9 = .int .i64 k ∧ v2 = .slice aa k ac ∧ k ≤ n ∧ Rws w0 wr (⟨3, 1, .slice aa k ac, k, (flN k id).flatMap encI⟩ :: (PR K n el pl inn bl ++ (SR S K.pb n hp ga sz tl ++ rest)))) (fun _ _ v9 _ => n - (intOf v9).toNat)
  case atStart => exact ⟨0, none, 0, rfl, rfl, Nat.zero_le _, H0.out⟩
  case round =>
    obtain ⟨k, aa, ac, rfl, rfl, hk, hrw⟩ := hrel
    have HR := Lib.hid hrw
    clear hrw H0
    by_cases hkn : k < n
    · have hkI : (k : Int) < (n : Int) := by omega
      have hown0 := (HR.out.alloc (.cells #[.int .i64 (k : Int)] 3)).get (i := 0) rfl
      dsimp only at hown0
      have HOWN := Lib.hid hown0
      have HB := Lib.hid ((Below.refl wr.heap.size wr).alloc (Nat.le_refl _) (.cells #[.int .i64 (k : Int)] 3))
      have hlo := HR.out.bel.size
      have HSU := Lib.hid (flN_succ k id)
      clear hown0
      go_wp2_with (at_builtin; refine wpList_lie rfl _ _ _ rfl rowI (base := w0.heap.size) (by simp; omega) rfl HOWN.out ⟨wr.heap.size, 0, none⟩ 1 1 [.int .i64 (k : Int)] rfl rfl (cells1 (by simp [go_sem])) (by simp [Value.oneCell']) (by decide) (by omega) (by unfold maxLen; omega) wr.heap.size (by simp) ?_; intro g cap w7 hown7 hg7 hl7 hlt7)
      have hz := HR.out.headGrow HB.out hown7 hg7 hl7
      rw [show flN k id ++ [(k : Int)] = flN (k + 1) id from HSU.out.symm] at hz
      have HZ := Lib.hid hz
      clear hz hown7 hg7 hl7 hlt7 hlo HOWN HB HR HSU
      go_roundw
      case rel => exact ⟨k + 1, _, _, by go_num, rfl, by omega, HZ.out⟩
      case measure => simp [intOf]; omega
    · obtain rfl : k = n := by omega
      have hswap : Rws w0 wr (SR S K.pb k hp ga sz tl ++ ((⟨3, 1, .slice aa k ac, k, (flN k id).flatMap encI⟩ :: PR K k el pl inn bl) ++ rest)) := Rws.swap (A := ⟨3, 1, .slice aa k ac, k, (flN k id).flatMap encI⟩ :: PR K k el pl inn bl) HR.out
      have hlr : ((List.range k).map Int.ofNat) = flN k id := rfl
      have hT := took_any hswap (L := List.range k) (fun t ht => by simpa using ht) List.nodup_range (by simpa using hn1) HGA.out htl (ia := aa) (ib := blkOf aa) (io := 0) (ic := ac)
        (fun w' hw => by rw [hlr]; exact hw.slO (i := 0) rfl lenI (flN_len k id).symm)
      rw [List.length_range] at hT
      have HT := Lib.hid hT
      clear hswap hlr hT HR
      go_wp2_with fail
      refine HT.out.mono ?_
      unfold TookPost
      rintro e w2 ⟨rfl, ta, tc, hr2⟩
      have hc2 := hr2.sCells
      have x3 := hc2.2.2.2.1
      have xl2 := hc2.2.2.2.2.2.2.2
      have xf := (hr2.sFz 3).1
      have h3 := hr2.sNewSz (k : Int)
      simp only at x3 xl2 xf h3
      have h4 : Rws w0 ((w2.setCell ⟨S.xb, 3, none⟩ (.slice (some ⟨w2.heap.size, 0, none⟩) 1 1)).alloc (.cells #[.int .i64 (k : Int)] 3)) (PR K k el pl inn bl ++ (SR { S with ta := ta, tc := tc, sa := some ⟨w2.heap.size, 0, none⟩, sc := 1 } K.pb k hp (fun p => if p ∈ List.range k then ga p + 1 else ga p) [(k : Int)] (tl ++ [.slice aa k ac]) ++ (⟨3, 1, .slice aa k ac, k, (flN k id).flatMap encI⟩ :: rest))) :=
        Rws.dig (Rws.swap (B := ⟨3, 1, .slice aa k ac, k, (flN k id).flatMap encI⟩ :: PR K k el pl inn bl) h3)
      have hsw : SW w0 ((w2.setCell ⟨S.xb, 3, none⟩ (.slice (some ⟨w2.heap.size, 0, none⟩) 1 1)).alloc (.cells #[.int .i64 (k : Int)] 3)) s K { S with ta := ta, tc := tc, sa := some ⟨w2.heap.size, 0, none⟩, sc := 1 } k el pl inn bl hp (fun p => if p ∈ List.range k then ga p + 1 else ga p) [(k : Int)] (tl ++ [.slice aa k ac]) (⟨3, 1, .slice aa k ac, k, (flN k id).flatMap encI⟩ :: rest) :=
        ⟨⟨h4, H.out.par.pi, hn1⟩, H.out.gr, H.out.st⟩
      have hlr : ((List.range k).map Int.ofNat) = flN k id := rfl
      have hS := strSplit_any hsw HUN.out (L := List.range k) (fun t ht => by simpa using ht) (by simpa using hn1) (ia := aa) (ib := blkOf aa) (io := 0) (ic := ac)
        (fun w' hw => by rw [hlr]; exact hw.slO (i := 0) rfl lenI (flN_len k id).symm)
      rw [List.length_range] at hS
      have HS := Lib.hid hS
      clear hr2 hc2 h3 h4 hsw hlr hS HT
      go_wp2_with fail
      refine HS.out.mono ?_
      unfold StrSplit
      rintro e w3 ⟨rfl, K', el', pl', inn', bl', hsw, hpb, hu, hsb⟩
      have HSW := Lib.hid hsw; have HPB := Lib.hid hpb; have HU := Lib.hid hu; have HSB := Lib.hid hsb
      clear hsw hpb hu hsb HS x3 xl2 xf
      go_wp2_with fail
      go_end0
      exact ⟨rfl, K', _, el', pl', inn', bl', aa, ac, HSW.out, HPB.out, rfl, HU.out, HSB.out⟩
end
end Go.Proofs.YtopnedihknjjfaaGreatDoor
