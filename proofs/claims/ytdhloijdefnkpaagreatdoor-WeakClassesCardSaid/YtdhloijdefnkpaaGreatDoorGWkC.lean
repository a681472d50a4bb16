/-
  weak.of, weak.made, weak.Silent.
  Rows of lists: one list laid by a call is put in its place; maps keyed by strings.
  Rows of ints as lists; the numbers of a table's row.
  What next's last loop wants: tables stand while a row of ints and a map change; the texts' lengths.
-/
import Derived.Test.YtdhloijdefnkpaaGreatDoorWkG
import Derived.Test.YtdhloijdefnkpaaGreatDoorTauK
import Derived.Test.YtdhloijdefnkpaaGreatDoorGWkL
import Derived.Test.YtdhloijdefnkpaaGreatDoorGFault
import Derived.Test.YtdhloijdefnkpaaGreatDoorGCanon
import Derived.Test.YtdhloijdefnkpaaGreatDoorGBrQ
import Derived.StringKeys
import Derived.Test.YtdhloijdefnkpaaGreatDoorGPl10
import Derived.Test.YtdhloijdefnkpaaGreatDoorWkK
import Derived.Test.YtdhloijdefnkpaaGreatDoorOMap
namespace Go.Proofs.YtdhloijdefnkpaaGreatDoor
open Go.RowKit Pl

def weakName : ByteArray := ⟨#[119, 101, 97, 107]⟩
/-- What the package's errors are: that of a system that is none, that of one that is too great. -/
structure WkErr (p : Addr) (w : World) : Prop where
  sys : GErr 1 p w
  blk : ∃ c t, w.heap[p.block]? = some (.cells c t (0, 0))
  great : SentQ 3 p w
theorem WkErr.below {p : Addr} {w w' : World} (h : WkErr p w) (hB : Below w.heap.size w w') : WkErr p w' :=
  ⟨h.sys.below hB, by obtain ⟨c, t, h1⟩ := h.blk; exact ⟨c, t, by rw [hB.block _ (Array.getElem?_eq_some_iff.1 h1).1]; exact h1⟩, h.great.below hB⟩
/-- A fault of this layer over one of the layer system. -/
def FaultW (w : World) (p : Addr) (v : Value) : Prop := ∃ vi, FaultAt w v weakName vi ∧ FaultAt w vi sysName (.iface 285 (.pointer (some p)))
theorem FaultW.below {w w' : World} {p : Addr} {v : Value} (h : FaultW w p v) (hB : Below w.heap.size w w') : FaultW w' p v := by
  obtain ⟨vi, h1, h2⟩ := h
  exact ⟨vi, h1.below hB, h2.below hB⟩
theorem SilT.lo0 {w : World} {lo sb n : Nat} {F : Nat → Nat → Bool} {I : List Nat} (h : SilT w lo sb n F I) : SilT w 0 sb n F I := by
  obtain ⟨bk, h1, h2⟩ := h.ex
  exact ⟨bk, h1, fun p hp => ⟨(h2 p hp).1, Nat.zero_le _, (h2 p hp).2.2⟩⟩

set_option maxRecDepth 100000 in
set_option maxHeartbeats 4000000 in
theorem ofW_any {p : Addr} {s : Lts} {n : Nat} (hr : s.Right) (hn : s.st = (n : Int)) (h300 : n ≤ 300) {a : Option Addr} {b off c : Nat} {w : World} (hG : WkErr p w) (hS : SlAt encE 3 w a b off s.es) :
    Calls Tryz.prog 56 #[.agg #[.int .i64 s.st, .int .i64 s.lb, .int .i64 s.s0, .slice a s.es.length c]] w fun e w' => ∃ (xb gb sb : Nat) (F : Nat → Nat → Bool), e = .returned (.tuple #[.pointer (some ⟨xb, 0, none⟩), .nilIface]) ∧ StepsAt w' xb gb sb n s F ∧ w.heap.size ≤ xb ∧ Below w.heap.size w w' := by
  have hB0 := (Below.refl w.heap.size w).alloc (Nat.le_refl _) (Obj.cells #[.int .i64 s.st, .int .i64 s.lb, .int .i64 s.s0, .slice a s.es.length c] 24)
  have hbx := heap_alloc_new w (Obj.cells #[.int .i64 s.st, .int .i64 s.lb, .int .i64 s.s0, .slice a s.es.length c] 24)
  have HNW := Lib.hid (new_ok (c := c) hr (hG.sys.below hB0) (hS.below hB0 (Nat.le_refl _)))
  obtain ⟨el, hel⟩ : ∃ el, el = s.es.length := ⟨_, rfl⟩
  have HG := Lib.hid hG; have HS := Lib.hid hS; have HB0 := Lib.hid hB0; have HBX := Lib.hid hbx; have HR := Lib.hid hr; have HN := Lib.hid hn; have HEL := Lib.hid hel
  rw [hn] at HNW HB0 HBX ⊢
  rw [← hel] at HNW HB0 HBX ⊢
  clear hG hS hB0 hbx hr hn hel
  go_enter Tryz.func56, Tryz.ntmps56
  go_wp2_with fail
  refine HNW.out.mono ?_
  rintro e w1 ⟨gb, rfl, hgr, hB1, _⟩
  have hb1 := HB0.out.trans (hB1.mono (by simp))
  have hx1 := (hB1.block w.heap.size (by simp)).trans HBX.out
  obtain ⟨x0, x1, x2, x3, x4⟩ := sysC hx1
  have hor := orderYes_any (c := c) HR.out HN.out (HG.out.sys.below hb1) (HS.out.below hb1 (Nat.le_refl _))
  rw [HN.out, ← HEL.out] at hor
  have HOR := Lib.hid hor; have HB1 := Lib.hid hb1; have HX1 := Lib.hid hx1; have HGR := Lib.hid hgr
  have h3I : ¬ (n : Int) > 300 := by omega
  clear hor hB1 hb1 hx1 hgr HNW HB0 HBX
  go_wp2_with fail
  refine HOR.out.mono ?_
  unfold OrdPost
  rintro e w2 ⟨g, D, v, hg, hD, hall, rfl, hown, hB2⟩
  have hb2 := HB1.out.trans (hB2.mono HB1.out.size)
  have hx2 := (hB2.block w.heap.size (Array.getElem?_eq_some_iff.1 HX1.out).1).trans HX1.out
  have hcy := cyclesYes_any (c := c) HR.out HN.out (HG.out.sys.below hb2) (HS.out.below hb2 (Nat.le_refl _))
  rw [HN.out, ← HEL.out] at hcy
  have HCY := Lib.hid hcy; have HB2 := Lib.hid hb2; have HX2 := Lib.hid hx2; have HGR2 := Lib.hid (HGR.out.below hB2)
  have HOW := Lib.hid hown; have HCG := Lib.hid hg; have HDD := Lib.hid hD; have HAL := Lib.hid hall
  clear x0 x1 x2 x3 x4
  obtain ⟨x0, x1, x2, x3, x4⟩ := sysC hx2
  clear hcy hB2 hb2 hx2 hown hg hD hall HOR HB1 HX1 HGR
  obtain ⟨vo, hvo⟩ : ∃ vo, vo = v := ⟨_, rfl⟩
  rw [← hvo] at HOW ⊢
  clear hvo
  go_wp2_with fail
  refine HCY.out.mono ?_
  rintro e w3 ⟨f, v3, hf, rfl, hown3, hB3⟩
  obtain ⟨hblk, hfg⟩ := BlkO.of_ord HR.out HN.out hf HCG.out HDD.out HAL.out
  have hown2 := HOW.out
  rw [hfg, ordO_K] at hown2
  have hol : ((ordO n f D).map Int.ofNat).length = n := by rw [List.length_map]; exact hblk.len
  obtain ⟨oa, oc, ob, rfl, _, _, hos, _⟩ := slAt_own (xs := (ordO n f D).map Int.ofNat) lenI (by rw [hol]; exact hown2)
  obtain ⟨ya, yc, yb, rfl, _, _, hys, _⟩ := slAt_own (xs := fl n (clf n f)) lenI (by rw [fl_len]; exact hown3)
  rw [hol, fl_len]
  have hb3 := HB2.out.trans (hB3.mono HB2.out.size)
  have hgr3 := HGR2.out.below hB3
  have HSI := Lib.hid (silentW_any (yc := yc) (oc := oc) hgr3 HR.out HN.out hblk hys (hos.below hB3 (Nat.le_refl _)))
  have HB3 := Lib.hid hb3; have HGR3 := Lib.hid hgr3
  clear x0 x1 x2 x3 x4 hown2 hown3 hblk hfg hf hol hos hys hB3 hb3 hgr3 HOW HCG HDD HAL HCY HB2 HX2 HGR2
  go_wp2_with fail
  refine HSI.out.mono ?_
  rintro e w4 ⟨sb, F, rfl, hsil, hsb, hB4, hF⟩
  have hb4 := HB3.out.trans (hB4.mono HB3.out.size)
  have hba := (Below.refl w4.heap.size w4).alloc (Nat.le_refl _) (Obj.cells #[.pointer (some ⟨gb, 0, none⟩), .slice (some ⟨sb, 0, none⟩) n n] 63)
  have hst : StepsAt (w4.alloc (Obj.cells #[.pointer (some ⟨gb, 0, none⟩), .slice (some ⟨sb, 0, none⟩) n n] 63)) w4.heap.size gb sb n s F :=
    ⟨heap_alloc_new w4 _, (HGR3.out.below hB4).below hba, HR.out, HN.out, (hsil.lo0).call hba, hF⟩
  have HST := Lib.hid hst; have HBF := Lib.hid (hb4.trans (hba.mono hb4.size))
  have hwl : w.heap.size ≤ w4.heap.size := hb4.size
  clear hsil hsb hB4 hF hb4 hba hst HSI HB3 HGR3
  go_wp2_with fail
  go_ret2
  exact ⟨_, gb, sb, F, rfl, HST.out, hwl, HBF.out⟩

set_option maxRecDepth 100000 in
set_option maxHeartbeats 4000000 in
theorem ofWNo_any {p : Addr} {s : Lts} (h : ¬ s.Right) {a : Option Addr} {b off c : Nat} {w : World} (hG : WkErr p w) (hT : ErrType w) (hS : SlAt encE 3 w a b off s.es) :
    Calls Tryz.prog 56 #[.agg #[.int .i64 s.st, .int .i64 s.lb, .int .i64 s.s0, .slice a s.es.length c]] w fun e w' => ∃ v, e = .returned (.tuple #[.pointer none, v]) ∧ FaultW w' p v ∧ Below w.heap.size w w' := by
  have hB0 := (Below.refl w.heap.size w).alloc (Nat.le_refl _) (Obj.cells #[.int .i64 s.st, .int .i64 s.lb, .int .i64 s.s0, .slice a s.es.length c] 24)
  have HNW := Lib.hid (new_no (c := c) h (hG.sys.below hB0) (hS.below hB0 (Nat.le_refl _)))
  have HB0 := Lib.hid hB0; have HT := Lib.hid hT
  clear hG hS hB0 h hT
  go_enter Tryz.func56, Tryz.ntmps56
  go_wp2_with fail
  refine HNW.out.mono ?_
  rintro e w1 ⟨v, rfl, hF, hB1⟩
  obtain ⟨fb, rfl, hfb⟩ := id hF.ex
  have HF := Lib.hid hF
  have HB1 := Lib.hid (HB0.out.trans (hB1.mono (by simp)))
  have HA := Lib.hid (faultAs_any weakName (HT.out.below HB1.out) hfb)
  unfold weakName at HA
  clear hB1 hfb hF HB0 HNW
  go_wp2_with fail
  refine HA.out.mono ?_
  rintro e w2 ⟨v, rfl, hF2, hB2⟩
  have hfw : FaultW w2 p v := ⟨_, hF2, HF.out.below hB2⟩
  obtain ⟨fb2, rfl, _⟩ := hF2.ex
  have HFW := Lib.hid hfw
  have HB2 := Lib.hid (HB1.out.trans (hB2.mono HB1.out.size))
  clear hF2 hB2 HB1 HA hfw
  go_wp2_with fail
  go_ret2
  exact ⟨_, rfl, HFW.out, HB2.out⟩

set_option maxRecDepth 100000 in
set_option maxHeartbeats 4000000 in
theorem madeW_any {p : Addr} {s : Lts} {n : Nat} (hr : s.Right) (hn : s.st = (n : Int)) (h300 : n ≤ 300) {a : Option Addr} {b off c : Nat} {w : World} (hG : WkErr p w) (hS : SlAt encE 3 w a b off s.es) :
    Calls Tryz.prog 29 #[.agg #[.int .i64 s.st, .int .i64 s.lb, .int .i64 s.s0, .slice a s.es.length c]] w fun e w' => ∃ (xb gb sb : Nat) (F : Nat → Nat → Bool), e = .returned (.tuple #[.pointer (some ⟨xb, 0, none⟩), .nilIface]) ∧ StepsAt w' xb gb sb n s F ∧ w.heap.size ≤ xb ∧ Below w.heap.size w w' := by
  have hB0 := (Below.refl w.heap.size w).alloc (Nat.le_refl _) (Obj.cells #[.int .i64 s.st, .int .i64 s.lb, .int .i64 s.s0, .slice a s.es.length c] 24)
  have HOF := Lib.hid (ofW_any (c := c) hr hn h300 (hG.below hB0) (hS.below hB0 (Nat.le_refl _)))
  have HG := Lib.hid hG; have HB0 := Lib.hid hB0
  clear hG hS hB0 hr hn h300
  go_enter Tryz.func29, Tryz.ntmps29
  go_wp2_with fail
  refine HOF.out.mono ?_
  rintro e w1 ⟨xb, gb, sb, F, rfl, hX, hxb, hB1⟩
  have hb1 := HB0.out.trans (hB1.mono (by simp))
  obtain ⟨q, cq, tq, hgq, _, _⟩ := (HG.out.below hb1).great
  have g0 := hgq.cell; have gl := hgq.lt
  have HX := Lib.hid hX; have HB1 := Lib.hid hb1
  have hxl : w.heap.size ≤ xb := by simp at hxb; omega
  clear hX hxb hB1 hb1 hgq HOF HB0
  go_wp2_with fail
  refine (isNilE_any _ _).mono ?_
  rintro e w2 ⟨rfl, rfl⟩
  go_wp2_with fail
  go_ret2
  exact ⟨xb, gb, sb, F, rfl, HX.out, hxl, HB1.out⟩

set_option maxRecDepth 100000 in
set_option maxHeartbeats 4000000 in
theorem madeWNo_any {p : Addr} {s : Lts} (h : ¬ s.Right) {a : Option Addr} {b off c : Nat} {w : World} (hG : WkErr p w) (hT : ErrType w) (hS : SlAt encE 3 w a b off s.es) :
    Calls Tryz.prog 29 #[.agg #[.int .i64 s.st, .int .i64 s.lb, .int .i64 s.s0, .slice a s.es.length c]] w fun e w' => ∃ v, e = .returned (.tuple #[.pointer none, v]) ∧ FaultW w' p v ∧ Below w.heap.size w w' := by
  have hB0 := (Below.refl w.heap.size w).alloc (Nat.le_refl _) (Obj.cells #[.int .i64 s.st, .int .i64 s.lb, .int .i64 s.s0, .slice a s.es.length c] 24)
  have HOF := Lib.hid (ofWNo_any (c := c) h (hG.below hB0) (hT.below hB0) (hS.below hB0 (Nat.le_refl _)))
  have HG := Lib.hid hG; have HB0 := Lib.hid hB0
  clear hG hS hB0 h hT
  go_enter Tryz.func29, Tryz.ntmps29
  go_wp2_with fail
  refine HOF.out.mono ?_
  rintro e w1 ⟨v, rfl, hF, hB1⟩
  have hb1 := HB0.out.trans (hB1.mono (by simp))
  have hge := HG.out.below hb1
  obtain ⟨q, cq, tq, hgq, hne, hqb⟩ := hge.great
  obtain ⟨cp, tp, hpb⟩ := hge.blk
  obtain ⟨vi, hf1, hf2⟩ := id hF
  obtain ⟨pb, rfl, hpb1⟩ := hf1.ex
  obtain ⟨pc, rfl, hpc1⟩ := hf2.ex
  have HIS := Lib.hid (is_faultQ_other pb pc q p cp cq tp tq w1 (by simp [World.cell?, hpb1]) (by simp [World.cell?, hpc1]) (Ne.symm hne) hpb hqb)
  have g0 := hgq.cell; have gl := hgq.lt
  have HF := Lib.hid hF; have HB1 := Lib.hid hb1
  clear hF hB1 hb1 hge hgq hne hqb hpb hf1 hf2 hpb1 hpc1 HOF HB0
  go_wp2_with fail
  refine HIS.out.mono ?_
  rintro e w2 ⟨rfl, rfl⟩
  go_wp2_with fail
  go_ret2
  exact ⟨_, rfl, HF.out, HB1.out⟩
end Go.Proofs.YtdhloijdefnkpaaGreatDoor

namespace Go.Proofs.YtdhloijdefnkpaaGreatDoor
open Go.RowKit Pl Go.Maps

section
variable {α : Type} {enc : α → List Value} {k : Nat} {e T : TypeId} {w w' : World} {base ob n : Nat} {f : Nat → List α}
theorem OwnRows.congr {g : Nat → List α} (h : OwnRows enc k e T w base ob n f) (hf : ∀ i, f i = g i) : OwnRows enc k e T w base ob n g := by
  have : f = g := funext hf
  rw [← this]; exact h
theorem OwnRows.put (h : OwnRows enc k e T w base ob n f) {p : Nat} (hB : Below w.heap.size w w') (hbs : base ≤ w.heap.size) {v : Value} {ys : List α} (ho : w'.ownsRow w.heap.size e k v ys.length (ys.flatMap enc)) :
    OwnRows enc k e T (w'.setCell ⟨ob, p, none⟩ v) base ob n (fun i => if i = p then ys else f i) := by
  obtain ⟨vs, h1, h2, h3⟩ := h.ex
  refine ⟨⟨fun i => if i = p then v else vs i, (h1.of_block (hB.block ob h1.lt)).set p v, fun q hq => ?_, ?_⟩, h.lt⟩
  · by_cases e1 : q = p
    · subst e1
      simp only [if_true]
      exact ownsRow_setCell_below (own_mono ho hbs) h.lt _
    · simp only [if_neg e1]
      exact ownsRow_setCell_below (own_below (h2 q hq) hB) h.lt _
  · intro a b g ha hb hab hga
    by_cases e1 : a = p
    · subst e1
      simp only [if_true] at hga
      simp only [if_neg (Ne.symm hab)]
      intro e2
      have h4 := (ho.lt g hga).1
      have h5 := ((h2 b hb).lt g e2).2
      omega
    · simp only [if_neg e1] at hga
      by_cases e2 : b = p
      · subst e2
        simp only [if_true]
        intro e3
        have h4 := (ho.lt g e3).1
        have h5 := ((h2 a ha).lt g hga).2
        omega
      · simp only [if_neg e2]; exact h3 a b g ha hb hab hga
end

/-- Maps keyed by strings. -/
def encTx (x : List UInt8) : Value := .string ⟨x.toArray⟩
def okTx (x : List UInt8) : Prop := x.length ≤ 1000000
theorem encTxt : KeyEnc Tryz.prog 9 encTx okTx where
  K := string_keyed Tryz.underlying9
  key x h := ⟨_, Go.WideMaps.keyOf_string_mk Tryz.underlying9 (by unfold maxLen; unfold okTx at h; show x.toArray.size ≤ _; rw [List.size_toArray]; omega)⟩
  inj x y h := by
    unfold encTx at h
    simp only [Value.string.injEq, ByteArray.mk.injEq] at h
    exact congrArg Array.toList h |>.trans (by rfl) |> fun e => by simpa using e
end Go.Proofs.YtdhloijdefnkpaaGreatDoor

namespace Go.Proofs.YtdhloijdefnkpaaGreatDoor
open Go.RowKit Pl

theorem rowIs_sl {w : World} {b n : Nat} {f : Nat → Int} (h : w.rowIs b 3 n (fun i => .int .i64 (f i))) : SlAt encI 1 w (some ⟨b, 0, none⟩) b 0 (fl n f) where
  ad _ := rfl
  lt _ := h.lt
  cell := by
    intro i x hx j u hu
    have hi : i < n := by have := (List.getElem?_eq_some_iff.1 hx).1; rwa [fl_len] at this
    rw [fl_get f hi] at hx
    cases hx
    match j, hu with
    | 0, hu => simp [encI] at hu; subst hu; simpa using h.cell hi

theorem fl_getD {n i : Nat} {G : Nat → Int} (hi : i < n) : (fl n G).getD i 0 = G i := by
  rw [List.getD_eq_getElem?_getD, fl_get G hi]; rfl
theorem rowAtK_all {n i : Nat} {G : Nat → Int} (hi : i < n) : rowAtK (fl n G) n i = .int .i64 (clf n G i) := by
  unfold rowAtK clf
  rw [if_pos hi, fl_getD hi]
end Go.Proofs.YtdhloijdefnkpaaGreatDoor

namespace Go.Proofs.YtdhloijdefnkpaaGreatDoor
open Go.RowKit Pl

/-- The blocks below hi that are rows, and none of ints, stand. -/
def KeepI (hi : Nat) (w w' : World) : Prop := ∀ b, b < hi → ∀ c ty z, w.heap[b]? = some (.cells c ty z) → ty ≠ 3 → w'.heap[b]? = w.heap[b]?
theorem KeepI.row {hi b n : Nat} {t : TypeId} {f : Nat → Value} {w w' : World} (hk : KeepI hi w w') (h : w.rowIs b t n f) (hb : b < hi) (ht : t ≠ 3) : w'.rowIs b t n f := by
  obtain ⟨c, h1, _, _⟩ := id h
  exact h.of_block (hk b hb _ _ _ h1 ht)
theorem KeepI.setCell {hi nb n : Nat} {f : Nat → Value} {w : World} (h : w.rowIs nb 3 n f) (i : Nat) (v : Value) : KeepI hi w (w.setCell ⟨nb, i, none⟩ v) := fun b hb c ty z h1 ht => by
  refine Below.heap_setCell _ _ _ _ (fun e => ?_)
  obtain ⟨c', h2, _, _⟩ := h
  change b = nb at e
  subst e
  rw [h1] at h2
  simp only [Option.some.injEq, Obj.cells.injEq] at h2
  exact ht h2.2.1
theorem KeepI.grown {hi ab : Nat} {w w' : World} (hg : w.grownBy w' (some ab)) (hm : ∃ es clock, w.heap[ab]? = some (.map es clock)) : KeepI hi w w' := fun b hb c ty z h1 ht => by
  refine hg.block b (Array.getElem?_eq_some_iff.1 h1).1 (fun e => ?_)
  obtain ⟨es, cl, h2⟩ := hm
  cases Option.some.inj e
  rw [h1] at h2
  cases h2
theorem WkR.kept {w w' : World} {tb hi rb lb WD : Nat} {R : Nat → Option (Nat → Bool)} (h : WkR w tb hi rb lb WD R) (hk : KeepI hi w w') : WkR w' tb hi rb lb WD R := by
  obtain ⟨bk, h1, h2⟩ := h.ex
  exact ⟨h.lt, h.ne, bk, hk.row h1 h.lt (by decide), fun l hl F hF => ⟨hk.row (h2 l hl F hF).1 (h2 l hl F hF).2.1 (by decide), (h2 l hl F hF).2⟩⟩
theorem WkT.kept {w w' : World} {hi tb n lb WD i : Nat} {x : Value} {T : Nat → Nat → Option (Nat → Bool)} (h : WkT w hi tb n lb WD i x T) (hk : KeepI hi w w') : WkT w' hi tb n lb WD i x T := by
  obtain ⟨rbk, h1, h2⟩ := h.ex
  exact ⟨h.lt, rbk, hk.row h1 h.lt (by decide), fun p hp => (h2 p hp).kept hk⟩

theorem keyS_len (W : Nat) (R : Nat → Option (Nat → Bool)) (l : Nat) : (keyS W R l).length ≤ 1 + 8 * W := by
  unfold keyS
  cases R l with
  | none => simp
  | some F => simp only [List.length_cons, bytesW_len]; omega
theorem keys_len (W : Nat) (R : Nat → Option (Nat → Bool)) : ∀ r, ((List.range r).flatMap (keyS W R)).length ≤ r * (1 + 8 * W)
  | 0 => by simp
  | r + 1 => by
    have h1 := keys_len W R r
    have h2 := keyS_len W R r
    rw [List.range_succ, List.flatMap_append, List.length_append, Nat.succ_mul]
    simp only [List.flatMap_cons, List.flatMap_nil, List.append_nil]
    omega
theorem keys_len2 {W r : Nat} (R : Nat → Option (Nat → Bool)) (hW : W ≤ 16) (hr : r ≤ 201) : ((List.range r).flatMap (keyS W R)).length ≤ 26000 := by
  have h1 := keys_len W R r
  have h2 : r * (1 + 8 * W) ≤ 201 * 129 := Nat.mul_le_mul hr (by omega)
  omega
theorem keys_snoc (W : Nat) (R : Nat → Option (Nat → Bool)) (r : Nat) : (List.range (r + 1)).flatMap (keyS W R) = (List.range r).flatMap (keyS W R) ++ keyS W R r := by
  rw [List.range_succ, List.flatMap_append]; simp
end Go.Proofs.YtdhloijdefnkpaaGreatDoor
