/-
  Lemmas.
-/
import Derived.Test.YtffjcehopoaboaaGreatDoorGJoinP
import Derived.Test.YtffjcehopoaboaaGreatDoorGWitF
namespace Go.Proofs.YtffjcehopoaboaaGreatDoor
namespace Pl
noncomputable section
def looseY (s : Lts) (C : List Int) (x : S) : List S := (reachL (tauOf s x.2)).map fun e => (x.1, atL C e)
def looseX (s : Lts) (C : List Int) (xs : List S) : List S := (xs.filter (fun x => !decide (x.1 = 0))).flatMap (looseY s C)
def looseM (s : Lts) (C : List Int) (L : List Int) : List S := L.flatMap fun m => (0, atL C m) :: looseX s C (s.outs m)
end
variable {s : Lts} {C : List Int}
theorem looseD_eq (q : Nat) : looseD s C q = looseM s C (reachL (tauOf s (q : Int))) := rfl
theorem looseM_congr {L M : List Int} (h : ∀ x, x ∈ L ↔ x ∈ M) (z : S) : z ∈ looseM s C L ↔ z ∈ looseM s C M := by
  unfold looseM
  simp only [List.mem_flatMap, h]
theorem looseM_snoc {L : List Int} {k : Nat} {m : Int} (h : L[k]? = some m) : looseM s C (L.take (k + 1)) = looseM s C (L.take k) ++ ((0, atL C m) :: looseX s C (s.outs m)) := by
  unfold looseM
  rw [take_snoc h, List.flatMap_append]
  simp
theorem looseX_snoc {xs : List S} {r : Nat} {y : S} (h : xs[r]? = some y) : looseX s C (xs.take (r + 1)) = if y.1 = 0 then looseX s C (xs.take r) else looseX s C (xs.take r) ++ looseY s C y := by
  unfold looseX
  rw [take_snoc h, List.filter_append, List.flatMap_append]
  by_cases e : y.1 = 0
  · rw [if_pos e]; simp [e]
  · rw [if_neg e]; simp [e]
def SeenL (s : Lts) (C : List Int) (Z A : List S) : Prop := ∀ z ∈ Z, ∀ y ∈ looseY s C z, y ∈ A
theorem SeenL.app {Z A B : List S} (h : SeenL s C Z A) : SeenL s C Z (A ++ B) := fun z hz y hy => List.mem_append_left _ (h z hz y hy)
theorem SeenL.congr {Z A B : List S} (h : SeenL s C Z A) (e : ∀ y, y ∈ A → y ∈ B) : SeenL s C Z B := fun z hz y hy => e y (h z hz y hy)
theorem SeenL.add {Z A : List S} {x : S} (h : SeenL s C Z A) (hx : ∀ y ∈ looseY s C x, y ∈ A) : SeenL s C (Z ++ [x]) A := fun z hz y hy => by
  rcases List.mem_append.1 hz with h1 | h1
  · exact h z h1 y hy
  · simp only [List.mem_singleton] at h1; subst h1; exact hx y hy
end Pl
end Go.Proofs.YtffjcehopoaboaaGreatDoor
namespace Go.Proofs.YtffjcehopoaboaaGreatDoor
open Go.RowKit Pl
open Lib (hid)
structure Loos (w0 w wb wr : World) (pb mb fb : Nat) (f : S → Option Unit) (A Z : List S) : Prop where
  nt : Noting w0 w wr pb mb (addU f A)
  keep : ∀ b, b < wb.heap.size → b ≠ mb → b ≠ fb → wr.heap[b]? = wb.heap[b]?
  size : wb.heap.size ≤ wr.heap.size
  frm : ∃ k, OMap wr fb encSv okS encU (addU (fun _ => none) Z) k
  flo : w.heap.size ≤ fb
  plo : pb < w.heap.size
  mlo : mb < w.heap.size
section
variable {w0 w wb wc wr w' : World} {pb mb fb : Nat} {f : S → Option Unit} {A B Z : List S}
theorem Loos.flt (h : Loos w0 w wb wr pb mb fb f A Z) : fb < wr.heap.size := by obtain ⟨_, hm⟩ := h.frm; exact hm.lt
theorem Loos.call (h : Loos w0 w wb wr pb mb fb f A Z) (hB : Below wr.heap.size wr w') : Loos w0 w wb w' pb mb fb f A Z := by
  obtain ⟨k, hf⟩ := h.frm
  exact ⟨h.nt.call hB, fun b h1 h2 h3 => (hB.block b (Nat.lt_of_lt_of_le h1 h.size)).trans (h.keep b h1 h2 h3), Nat.le_trans h.size hB.size, ⟨k, hf.of_block (hB.block _ hf.lt)⟩, h.flo, h.plo, h.mlo⟩
theorem Loos.congr (h : Loos w0 w wb wr pb mb fb f A Z) (e : ∀ z, z ∈ A ↔ z ∈ B) : Loos w0 w wb wr pb mb fb f B Z :=
  ⟨h.nt.congr (fun z => addU_congr e z), h.keep, h.size, h.frm, h.flo, h.plo, h.mlo⟩
theorem Loos.note {x : S} (h : Loos w0 w wb wr pb mb fb f A Z) (hg : wr.grownBy w' (some mb)) (hm : ∃ n, OMap w' mb encSv okS encU (fun z => if z = x then some () else addU f A z) n) : Loos w0 w wb w' pb mb fb f (A ++ [x]) Z := by
  obtain ⟨k, hf⟩ := h.frm
  have h1 := h.flo; have h2 := h.mlo
  exact ⟨(h.nt.note hg hm).congr (fun z => addU_snoc f A x z), fun b h1 h2 h3 => (hg.block b (Nat.lt_of_lt_of_le h1 h.size) (fun e => h2 (Option.some.inj e))).trans (h.keep b h1 h2 h3), Nat.le_trans h.size hg.size,
    ⟨k, hf.of_block (hg.block fb hf.lt (fun e => by have := Option.some.inj e; omega))⟩, h.flo, h.plo, h.mlo⟩
theorem Loos.put {x : S} (h : Loos w0 w wb wr pb mb fb f A Z) (hg : wr.grownBy w' (some fb)) (hm : ∃ n, OMap w' fb encSv okS encU (fun z => if z = x then some () else addU (fun _ => none) Z z) n) : Loos w0 w wb w' pb mb fb f A (Z ++ [x]) := by
  obtain ⟨n, hn⟩ := h.nt.map
  obtain ⟨n2, hm⟩ := hm
  have h1 := h.flo; have h2 := h.mlo; have h3 := h.plo; have h4 := h.nt.mlt; have h6 := h.flt
  have hlt := hn.lt
  have hb := h.nt.bel.size
  refine ⟨⟨h.nt.bel.grown hg hb (fun k e => by have := Option.some.inj e; omega), ⟨hg.os.trans h.nt.grown.os, hg.tape.trans h.nt.grown.tape, hg.output.trans h.nt.grown.output, Nat.le_trans h.nt.grown.size hg.size, fun i hi hne => ?_⟩, ?_, ⟨n, hn.of_block (hg.block mb hlt (fun e => by have := Option.some.inj e; omega))⟩, h.nt.mlt, h.nt.pne⟩,
    fun b h1 h2 h3 => (hg.block b (Nat.lt_of_lt_of_le h1 h.size) (fun e => h3 (Option.some.inj e))).trans (h.keep b h1 h2 h3), Nat.le_trans h.size hg.size, ⟨n2, hm.congr (fun z => addU_snoc (fun _ => none) Z x z)⟩, h.flo, h.plo, h.mlo⟩
  · exact (hg.block i (Nat.lt_of_lt_of_le hi h.nt.grown.size) (fun e => by have := Option.some.inj e; omega)).trans (h.nt.grown.block i hi hne)
  · rw [World.cell?_of_block (w := wr) (a := ⟨pb, 0, none⟩) (hg.block pb h.nt.plt (fun e => by have := Option.some.inj e; omega))]; exact h.nt.cell
theorem Loos.here (h : Loos w0 w wb wr pb mb fb f A Z) : Loos w0 w wr wr pb mb fb f A Z := ⟨h.nt, fun _ _ _ _ => rfl, Nat.le_refl _, h.frm, h.flo, h.plo, h.mlo⟩
theorem Loos.under (h : Loos w0 w wb wc pb mb fb f A Z) {A' Z' : List S} (h2 : Loos w0 w wc wr pb mb fb f A' Z') : Loos w0 w wb wr pb mb fb f A' Z' :=
  ⟨h2.nt, fun b h3 h4 h5 => (h2.keep b (Nat.lt_of_lt_of_le h3 h.size) h4 h5).trans (h.keep b h3 h4 h5), Nat.le_trans h.size h2.size, h2.frm, h2.flo, h2.plo, h2.mlo⟩
theorem Loos.sl {α : Type} {enc : α → List Value} {k : Nat} {a : Option Addr} {b off : Nat} {xs : List α} (h : Loos w0 w wb wr pb mb fb f A Z) (hS : SlAt enc k wb a b off xs) (hne : 0 < xs.length → b ≠ mb ∧ b ≠ fb) : SlAt enc k wr a b off xs :=
  ⟨hS.ad, fun hl => Nat.lt_of_lt_of_le (hS.lt hl) h.size, fun i x hx j u hu => by
    have hp : 0 < xs.length := by have := (List.getElem?_eq_some_iff.1 hx).1; omega
    rw [World.cell?_of_block (w := wb) (a := ⟨b, off + i * k + j, none⟩) (h.keep b (hS.lt hp) (hne hp).1 (hne hp).2)]
    exact hS.cell i x hx j u hu⟩
theorem Loos.start {n : Nat} (hN : Noting w0 w w pb mb f) : Loos w0 w (w.alloc (.map #[] 0)) (w.alloc (.map #[] 0)) pb mb w.heap.size f [] [] :=
  ⟨(hN.call ((Below.refl _ _).alloc (Nat.le_refl _) _)).congr (fun z => (addU_nil f z).symm), fun _ _ _ _ => rfl, Nat.le_refl _, ⟨0, (OMap.made w).congr (fun z => (addU_nil (fun _ => none) z).symm)⟩, Nat.le_refl _, hN.plt, by obtain ⟨_, hm⟩ := hN.map; exact hm.lt⟩
end
set_option maxRecDepth 100000 in
set_option maxHeartbeats 8000000 in
theorem loose_any {w0 w : World} {gb : Nat} {s : Lts} (h : GraphAt w0 gb s) {n : Nat} {C : List Int} (hC : Cls s n C) {ca : Option Addr} {cb co cc : Nat} (hS : SlAt encI 1 w0 ca cb co C) {pb mb : Nat} {f : S → Option Unit} (hN : Noting w0 w w pb mb f) {q : Nat} (hq : q < n) :
    Calls Tryz.prog 103 #[.pointer (some ⟨gb, 0, none⟩), .slice ca n cc, .int .i64 q, .func (.func 146) #[] #[.pointer (some ⟨pb, 0, none⟩)]] w fun e w' => e = .returned (.tuple #[]) ∧ Noting w0 w w' pb mb (addU f (looseD s C q)) := by
  have hmm := @run_makeMap Tryz.prog
  have hn : n ≤ 1000 := by have := h.right.st0; have := hC.st; omega
  have hcl := hC.len
  obtain rfl := hS.ad (by omega)
  have hcm : cb < w0.heap.size := hS.lt (by omega)
  have hl0 : Loos w0 w (w.alloc (.map #[] 0)) (w.alloc (.map #[] 0)) pb mb w.heap.size f [] [] := Loos.start (n := n) hN
  have hwb : w0.heap.size ≤ w.heap.size := hN.bel.size
  have hml := hN.mlt
  have HH := hid h; have HS := hid hS; have HC := hid hC; have HL0 := hid hl0
  clear h hS hC hN hcl hl0
  go_enter Tryz.func103, Tryz.ntmps103
  go_wp2_with fail
  refine (silent_any HH.out HL0.out.nt.bel HC.out.st hq).mono ?_
  rintro e w2 ⟨L, v, hbf, rfl, hown, hB2⟩
  obtain ⟨la, lc, lb, rfl, _, _, hls, hlb⟩ := slAt_own lenI hown
  have hl2 := (HL0.out.call hB2).here
  have hLr := hbf.rng
  have hLl : L.length ≤ n := by have := hbf.len; have h2 : (tauOf s q).st = (n : Int) := HC.out.st; rw [h2] at this; simpa using this
  obtain ⟨fb, hfb⟩ : ∃ fb, fb = w.heap.size := ⟨_, rfl⟩
  have hlb2 : 0 < L.length → lb ≠ mb ∧ lb ≠ fb := fun hp => by have h1 := hlb hp; have h2 := hl2.mlo; simp at h1; omega
  rw [← hfb] at hl2 ⊢
  have HLS := hid hls; have HL2 := hid hl2; have HBF := hid hbf; have HLR := hid hLr; have HLB := hid hlb2
  clear hown hB2 hls hl2 hbf hLr hlb hlb2 HL0 hfb hmm
  go_wp2_with fail
  go_loopw [10, 12, 13, 14, 16, 22] (fun _ _ _ _ _ v22 wr => ∃ (k : Nat) (Z : List S), v22 = .int .i64 k ∧ k ≤ L.length ∧ SeenL s C Z (looseM s C (L.take k)) ∧ Loos w0 w w2 wr pb mb fb f (looseM s C (L.take k)) Z) (fun _ _ _ _ _ v22 _ => L.length - (intOf v22).toNat)
  case atStart => exact ⟨0, [], rfl, Nat.zero_le _, by intro z hz; simp at hz, HL2.out.congr (fun z => by unfold looseM; simp)⟩
  case round =>
    obtain ⟨k, Z, rfl, hk, hsn, hlr⟩ := hrel
    have HSN := hid hsn; have HLW := hid hlr
    have hszr := hlr.nt.bel.size
    clear hsn hlr HL2
    by_cases hlt : k < L.length
    · obtain ⟨m, hm⟩ := getElem?_of_lt hlt
      have hls := HLW.out.sl HLS.out HLB.out
      obtain rfl := hls.ad (by omega)
      have l1 := hls.ci hm
      have ll := hls.lt (by omega)
      simp only [Nat.zero_add] at l1
      have hmr := HLR.out m (List.mem_of_getElem? hm)
      have hmst : (tauOf s q).st = (n : Int) := HC.out.st
      obtain ⟨mm, rfl⟩ := Int.eq_ofNat_of_zero_le hmr.1
      have hmn : mm < n := by omega
      have hmI : (mm : Int) < (n : Int) := by omega
      have hcs := HS.out.below HLW.out.nt.bel (Nat.le_refl _)
      have hcl := HC.out.len
      obtain ⟨y, hy⟩ := getElem?_of_lt (xs := C) (i := mm) (by omega)
      have g1 := hcs.ci hy
      have gl := hcs.lt (by omega)
      have hay : atL C (mm : Int) = y := by unfold atL; rw [List.getD_eq_getElem?_getD]; simp [hy]
      have hok : okS ((0 : Int), y) := ⟨(by decide : (Lit.int .i64 0).wf = true), HC.out.ok y (List.mem_of_getElem? hy)⟩
      have hsk := looseM_snoc (s := s) (C := C) hm
      rw [hay] at hsk
      have hkI : (k : Int) < (L.length : Int) := by omega
      have HSK := hid hsk; have HOK := hid hok; have HM := hid hm
      clear hm hls hmr hmst hcs hcl hy hay hok hsk
      go_wp2_with fail
      refine (note_any HLW.out.nt.cell HLW.out.nt.map.choose_spec 0 y HOK.out).mono ?_
      rintro e w4 ⟨rfl, hm4, hg4⟩
      have hl4 := HLW.out.note hg4 hm4
      have HL4 := hid hl4
      have hea := each_any HH.out hl4.nt.bel (mm : Int)
      have HEA := hid hea
      clear hl4 hm4 hg4 hea l1 ll g1 gl HOK HLW
      go_wp2_with fail
      refine HEA.out.mono ?_
      rintro e w5 ⟨⟨a2, c2, b2, off2, rfl, hc2, hm2, hss⟩, hB5⟩
      have HL5 := hid ((HL4.out.call hB5))
      have HSS := hid hss
      have hsl : (s.outs (mm : Int)).length ≤ 10000 := outs_len HH.out.right _
      clear hss hB5 hc2 hm2 HL4 HEA
      go_wp2_with fail
      go_loopw [12, 13, 14, 16, 36] (fun _ _ _ _ v36 wr => ∃ (r : Nat) (Z : List S), v36 = .int .i64 r ∧ r ≤ (s.outs (mm : Int)).length ∧ SeenL s C Z (looseM s C (L.take k) ++ ((0, y) :: looseX s C ((s.outs (mm : Int)).take r))) ∧ Loos w0 w w2 wr pb mb fb f (looseM s C (L.take k) ++ ((0, y) :: looseX s C ((s.outs (mm : Int)).take r))) Z)
        (fun _ _ _ _ v36 _ => (s.outs (mm : Int)).length - (intOf v36).toNat)
      case atStart => exact ⟨0, Z, rfl, Nat.zero_le _, HSN.out.app, HL5.out.congr (fun z => by unfold looseX; simp)⟩
      case round =>
        obtain ⟨r, Z2, rfl, hr, hsn, hlr⟩ := hrel
        have HSN2 := hid hsn; have HLW := hid hlr
        have hszr := hlr.nt.bel.size
        clear hsn hlr HL5 HSN
        by_cases hlt : r < (s.outs (mm : Int)).length
        · obtain ⟨x, hx⟩ := getElem?_of_lt hlt
          have hss := HSS.out.below HLW.out.nt.bel (Nat.le_refl _)
          obtain rfl := hss.ad (by omega)
          have d0 := hss.s0 hx; have d1 := hss.s1 hx
          have dl := hss.lt (by omega)
          have hyr := offB_false.1 (HH.out.right.edges _ (mem_outs.1 (List.mem_of_getElem? hx)))
          have hlb := HH.out.right.st0
          have hst := HC.out.st
          obtain ⟨x1, x2⟩ := x
          simp only at hyr d0 d1
          obtain ⟨t, rfl⟩ := Int.eq_ofNat_of_zero_le hyr.2.2.2.2.1
          have htn : t < n := by omega
          have htI : (t : Int) < (n : Int) := by omega
          have hok : okS (x1, (t : Int)) := ⟨WalkArith.wf_i64 (by omega), WalkArith.wf_i64 (by omega)⟩
          have hrI : (r : Int) < ((s.outs (mm : Int)).length : Int) := by omega
          have hxs := looseX_snoc (s := s) (C := C) hx
          simp only at hxs
          have HXS := hid hxs; have HOK := hid hok
          clear hx hss hyr hlb hst hok hxs
          go_upto_region 8 with fail
          obtain ⟨wy, hwy⟩ : ∃ wy, wy = wr.alloc (.cells #[.int .i64 x1, .int .i64 t] 131) := ⟨_, rfl⟩
          have hby : Below wr.heap.size wr wy := by rw [hwy]; exact (Below.refl wr.heap.size wr).alloc (Nat.le_refl _) _
          have hxb : wy.heap[wr.heap.size]? = some (.cells #[.int .i64 x1, .int .i64 t] 131 (0, 0)) := by rw [hwy]; exact heap_alloc_new wr _
          rw [← hwy]
          obtain ⟨xb, hxbe⟩ : ∃ xb, xb = wr.heap.size := ⟨_, rfl⟩
          rw [← hxbe] at hxb ⊢
          have hly := HLW.out.call hby
          have hbz := (Below.refl wy.heap.size wy).alloc (Nat.le_refl _) (.cells #[] 190)
          have hlz := hly.call hbz
          have hxbz := (Below.heap_alloc wy (.cells #[] 190) xb (Array.getElem?_eq_some_iff.1 hxb).1).trans hxb
          have HLZ := hid hlz; have HXZ := hid hxbz
          obtain ⟨kf, hkf⟩ := hly.frm
          have HFR := hid hkf
          have e0 : wy.cell? ⟨xb, 0, none⟩ = some (.int .i64 x1) := by simp [World.cell?, hxb]
          have e1 : wy.cell? ⟨xb, 1, none⟩ = some (.int .i64 t) := by simp [World.cell?, hxb]
          have el := (Array.getElem?_eq_some_iff.1 hxb).1
          have f0 : (wy.alloc (.cells #[] 190)).cell? ⟨xb, 0, none⟩ = some (.int .i64 x1) := by simp [World.cell?, hxbz]
          have f1 : (wy.alloc (.cells #[] 190)).cell? ⟨xb, 1, none⟩ = some (.int .i64 t) := by simp [World.cell?, hxbz]
          have fl := (Array.getElem?_eq_some_iff.1 hxbz).1
          have hxm : xb ≠ mb ∧ xb ≠ fb := by have h1 := HLW.out.flt; obtain ⟨_, h2⟩ := HLW.out.nt.map; have h3 := h2.lt; omega
          clear hwy hby hxb hxbe hbz hlz hxbz hly hkf d0 d1 dl HLW
          by_cases hin : (x1, (t : Int)) ∈ Z2
          · have HNF : Hid (addU (fun _ => none) Z2 (x1, (t : Int)) = some ()) := hid (by unfold addU; rw [if_pos hin])
            have HNX : Hid (∀ z, z ∈ looseM s C (L.take k) ++ ((0, y) :: looseX s C ((s.outs (mm : Int)).take r)) ↔ z ∈ looseM s C (L.take k) ++ ((0, y) :: looseX s C ((s.outs (mm : Int)).take (r + 1)))) := hid (by
              intro z
              rw [HXS.out]
              by_cases hx0 : x1 = 0
              · rw [if_pos hx0]
              · rw [if_neg hx0]
                constructor
                · intro hz
                  rw [← List.cons_append, ← List.append_assoc]
                  exact List.mem_append_left _ hz
                · intro hz
                  rw [← List.cons_append, ← List.append_assoc] at hz
                  rcases List.mem_append.1 hz with h1 | h1
                  · exact h1
                  · exact HSN2.out _ hin z h1)
            clear hin
            go_wp2_with (at_lookup; refine wpList_olook_ok rfl _ _ 189 rfl encStep Tryz.underlying189 (zeroUnit _) rfl HFR.out (x1, (t : Int)) HOK.out rfl ?_; rw [HNF.out]; simp only [Option.map_some, Option.getD_some, Option.isSome_some, encU])
            go_roundw
            case rel => exact ⟨r + 1, Z2, by go_num, by omega, HSN2.out.congr (fun y hy => (HNX.out y).1 hy), HLZ.out.congr HNX.out⟩
            case measure => simp [intOf]; omega
          · have HNF : Hid (addU (fun _ => none) Z2 (x1, (t : Int)) = none) := hid (by unfold addU; rw [if_neg hin])
            clear hin
            by_cases hx0 : x1 = 0
            · have HNX : Hid (looseX s C ((s.outs (mm : Int)).take (r + 1)) = looseX s C ((s.outs (mm : Int)).take r)) := hid (by rw [HXS.out, if_pos hx0])
              have hb0 : (x1 == 0) = true := by simp [hx0]
              clear hx0
              go_wp2_with (at_lookup; refine wpList_olook_ok rfl _ _ 189 rfl encStep Tryz.underlying189 (zeroUnit _) rfl HFR.out (x1, (t : Int)) HOK.out rfl ?_; rw [HNF.out]; simp only [Option.map_none, Option.getD_none, Option.isSome_none])
              go_roundw
              case rel => exact ⟨r + 1, Z2, by go_num, by omega, by rw [HNX.out]; exact HSN2.out, by rw [HNX.out]; exact HLZ.out⟩
              case measure => simp [intOf]; omega
            · have hb0 : (x1 == 0) = false := by simp [hx0]
              have HX0 := hid hx0
              clear hx0
              go_upto_region 10 with (at_lookup; refine wpList_olook_ok rfl _ _ 189 rfl encStep Tryz.underlying189 (zeroUnit _) rfl HFR.out (x1, (t : Int)) HOK.out rfl ?_; rw [HNF.out]; simp only [Option.map_none, Option.getD_none, Option.isSome_none])
              obtain ⟨wz, hwz⟩ : ∃ wz, wz = wy.alloc (.cells #[] 190) := ⟨_, rfl⟩
              rw [← hwz] at HLZ HXZ f0 f1 fl ⊢
              clear hwz e0 e1 el HFR HNF
              go_upto_region 11 with (at_mapUpdate; refine wpList_oput rfl _ _ _ 189 rfl encStep Tryz.underlying189 rfl HLZ.out.frm.choose_spec (x1, (t : Int)) HOK.out rfl () rfl ?_; intro w7 hom7 hg7 hf7 hs7)
              have hl7 := HLZ.out.put hg7 ⟨_, hom7⟩
              have hx7 := (hg7.block xb fl (fun e => hxm.2 (Option.some.inj e))).trans HXZ.out
              have HL7 := hid hl7
              have HX7 := hid hx7
              have i0 : w7.cell? ⟨xb, 0, none⟩ = some (.int .i64 x1) := by simp [World.cell?, hx7]
              have i1 : w7.cell? ⟨xb, 1, none⟩ = some (.int .i64 t) := by simp [World.cell?, hx7]
              have il := (Array.getElem?_eq_some_iff.1 hx7).1
              have HSI := hid (silent_any HH.out hl7.nt.bel HC.out.st (q := t) htn)
              clear hl7 hx7 hom7 hg7 hf7 hs7 HLZ HXZ f0 f1 fl
              go_wp2_with fail
              refine HSI.out.mono ?_
              rintro e w8 ⟨L2, v2, hbf2, rfl, hown2, hB8⟩
              obtain ⟨la2, lc2, lb2, rfl, _, _, hls2, hlb2⟩ := slAt_own lenI hown2
              have hl8 := HL7.out.call hB8
              have hx8 := (hB8.block xb il).trans HX7.out
              have hLr2 := hbf2.rng
              have hLl2 : L2.length ≤ n := by have := hbf2.len; have h2 : (tauOf s t).st = (n : Int) := HC.out.st; rw [h2] at this; simpa using this
              have hlb3 : 0 < L2.length → lb2 ≠ mb ∧ lb2 ≠ fb := fun hp => by have h1 := hlb2 hp; have h2 := HL7.out.flt; obtain ⟨_, h3⟩ := HL7.out.nt.map; have h4 := h3.lt; omega
              have hR2 := tauOf_right (q := (t : Int)) HH.out.right (by omega) (by have := HC.out.st; omega)
              have hall2 : ∀ z, z ∈ L2 ↔ z ∈ reachL (tauOf s (t : Int)) := fun z => by rw [hbf2.all, mem_reachL hR2 (by show s.st ≠ 0; have := HC.out.st; omega)]
              have HL8 := hid hl8; have HX8 := hid hx8; have HLR2 := hid hLr2; have HLB2 := hid hlb3; have HLS2 := hid hls2; have HALL2 := hid hall2
              clear hl8 hx8 hLr2 hlb2 hlb3 hls2 hown2 hB8 hbf2 hR2 hall2 HL7 HX7 i0 i1 il HSI
              go_wp2_with fail
              go_loopw [16, 60] (fun _ v60 wr => ∃ j : Nat, v60 = .int .i64 j ∧ j ≤ L2.length ∧ Loos w0 w w8 wr pb mb fb f (looseM s C (L.take k) ++ ((0, y) :: looseX s C ((s.outs (mm : Int)).take r)) ++ (L2.take j).map (fun e => (x1, atL C e))) (Z2 ++ [(x1, (t : Int))])) (fun _ v60 _ => L2.length - (intOf v60).toNat)
              case atStart => exact ⟨0, rfl, Nat.zero_le _, HL8.out.here.congr (fun z => by simp)⟩
              case round =>
                obtain ⟨j, rfl, hj, hlr⟩ := hrel
                have HLW := hid hlr
                have hszr := hlr.nt.bel.size
                clear hlr
                by_cases hlt : j < L2.length
                · obtain ⟨e2, he2⟩ := getElem?_of_lt hlt
                  have hls := HLW.out.sl HLS2.out HLB2.out
                  obtain rfl := hls.ad (by omega)
                  have l1 := hls.ci he2
                  have ll := hls.lt (by omega)
                  simp only [Nat.zero_add] at l1
                  have hmr := HLR2.out e2 (List.mem_of_getElem? he2)
                  have hmst : (tauOf s t).st = (n : Int) := HC.out.st
                  obtain ⟨en, rfl⟩ := Int.eq_ofNat_of_zero_le hmr.1
                  have hmn : en < n := by omega
                  have hmI : (en : Int) < (n : Int) := by omega
                  have hcs := HS.out.below HLW.out.nt.bel (Nat.le_refl _)
                  have hcl := HC.out.len
                  obtain ⟨z, hz⟩ := getElem?_of_lt (xs := C) (i := en) (by omega)
                  have g1 := hcs.ci hz
                  have gl := hcs.lt (by omega)
                  have haz : atL C (en : Int) = z := by unfold atL; rw [List.getD_eq_getElem?_getD]; simp [hz]
                  have hok : okS (x1, z) := ⟨HOK.out.1, HC.out.ok z (List.mem_of_getElem? hz)⟩
                  have hsk : (L2.take (j + 1)).map (fun e => (x1, atL C e)) = (L2.take j).map (fun e => (x1, atL C e)) ++ [(x1, z)] := by rw [take_snoc he2, List.map_append]; simp [haz]
                  have hjI : (j : Int) < (L2.length : Int) := by omega
                  have hx8 : wr.heap[xb]? = some (.cells #[.int .i64 x1, .int .i64 t] 131 (0, 0)) := (HLW.out.keep xb (Array.getElem?_eq_some_iff.1 HX8.out).1 hxm.1 hxm.2).trans HX8.out
                  have HSK := hid hsk; have HOK2 := hid hok
                  have i0 : wr.cell? ⟨xb, 0, none⟩ = some (.int .i64 x1) := by simp [World.cell?, hx8]
                  have il := (Array.getElem?_eq_some_iff.1 hx8).1
                  have hnd : Noting w0 w wr.drew pb mb (addU f (looseM s C (L.take k) ++ ((0, y) :: looseX s C ((s.outs (mm : Int)).take r)) ++ (L2.take j).map (fun e => (x1, atL C e)))) := HLW.out.nt.call (Below.refl _ _).drew
                  have HND := hid hnd
                  clear he2 hls hmr hmst hcs hcl hz haz hok hsk hx8 hnd
                  go_wp2_with fail
                  go_region_held3 (fun w' => w'.cell? ⟨xb, 0, none⟩ = some (.int .i64 x1) ∧ w'.cell? ⟨cb, co + en, none⟩ = some (.int .i64 z))
                    (first | exact ⟨i0, g1⟩ | (exact ⟨by assumption, by assumption⟩))
                    ((go_at_call 146; refine (note_any HND.out.cell HND.out.map.choose_spec x1 z HOK2.out).mono ?_; rintro e w9 ⟨rfl, hm9, hg9⟩; have j0 : w9.cell? ⟨xb, 0, none⟩ = some (.int .i64 x1) := (World.cell?_of_block (a := ⟨xb, 0, none⟩) (hg9.block xb il (fun e => hxm.1 (Option.some.inj e)))).trans i0; have j1 : w9.cell? ⟨cb, co + en, none⟩ = some (.int .i64 z) := (World.cell?_of_block (a := ⟨cb, co + en, none⟩) (hg9.block cb gl (fun e => by have := Option.some.inj e; omega))).trans g1))
                  have hl9 := (HLW.out.call (w' := wr.drew) (Below.refl _ _).drew).note hg9 hm9
                  rw [List.append_assoc, ← HSK.out] at hl9
                  have HL9 := hid hl9
                  clear hl9 hm9 hg9 HLW HND i0 il l1 ll g1 gl
                  go_wp2_with fail
                  go_roundw
                  case rel => exact ⟨j + 1, by go_num, by omega, HL9.out⟩
                  case measure => simp [intOf]; omega
                · have hjj : L2.length = j := by omega
                  subst hjj
                  have HNX : Hid (∀ z, z ∈ looseM s C (L.take k) ++ ((0, y) :: looseX s C ((s.outs (mm : Int)).take r)) ++ (L2.take L2.length).map (fun e => (x1, atL C e)) ↔ z ∈ looseM s C (L.take k) ++ ((0, y) :: looseX s C ((s.outs (mm : Int)).take (r + 1)))) := hid (by
                    intro z
                    rw [HXS.out, if_neg HX0.out, ← List.cons_append, ← List.append_assoc, List.take_length]
                    unfold looseY
                    simp only [List.mem_append, List.mem_map, HALL2.out])
                  have hfin := HL8.out.under HLW.out
                  have HFN := hid hfin
                  have HSE : Hid (SeenL s C (Z2 ++ [(x1, (t : Int))]) (looseM s C (L.take k) ++ ((0, y) :: looseX s C ((s.outs (mm : Int)).take (r + 1))))) := hid (by
                    rw [HXS.out, if_neg HX0.out, ← List.cons_append, ← List.append_assoc]
                    exact HSN2.out.app.add (fun z hz => List.mem_append_right _ hz))
                  clear hfin HLW
                  go_wp2_with fail
                  go_roundw
                  case rel => exact ⟨r + 1, Z2 ++ [(x1, (t : Int))], by go_num, by omega, HSE.out, HFN.out.congr HNX.out⟩
                  case measure => simp [intOf]; omega
        · have hrr : (s.outs (mm : Int)).length = r := by omega
          have HNX : Hid (looseM s C (L.take (k + 1)) = looseM s C (L.take k) ++ ((0, y) :: looseX s C ((s.outs (mm : Int)).take r))) := hid (by rw [HSK.out, ← hrr, List.take_length])
          clear hrr
          go_wp2_with fail
          go_roundw
          case rel => exact ⟨k + 1, Z2, by go_num, by omega, by rw [HNX.out]; exact HSN2.out, by rw [HNX.out]; exact HLW.out⟩
          case measure => simp [intOf]; omega
    · have hkk : L.length = k := by omega
      subst hkk
      have hR := tauOf_right (q := (q : Int)) HH.out.right (by omega) (by have := HC.out.st; omega)
      have hfin : Noting w0 w wr pb mb (addU f (looseD s C q)) := HLW.out.nt.congr (fun z => by
        rw [List.take_length, looseD_eq]
        refine addU_congr (fun z => looseM_congr (fun x => ?_) z) z
        rw [HBF.out.all, mem_reachL hR (by show s.st ≠ 0; have := HC.out.st; omega)])
      have HF := hid hfin
      clear hfin HLW hR
      go_wp2_with fail
      go_end0
      exact ⟨rfl, HF.out⟩
end Go.Proofs.YtffjcehopoaboaaGreatDoor
