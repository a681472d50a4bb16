/-
  Lemmas.
-/
import Derived.Test.YtdhloijdefnkpaaGreatDoorWkG
import Derived.Test.YtdhloijdefnkpaaGreatDoorGTauJ
import Derived.Test.YtdhloijdefnkpaaGreatDoorGWitW
import Derived.Test.YtdhloijdefnkpaaGreatDoorGBrC
import Derived.Test.YtdhloijdefnkpaaGreatDoorGWkM
import Derived.Test.YtdhloijdefnkpaaGreatDoorShelf
import Derived.Shelf.Strings.BuilderK
import Derived.Deep.QuietTactic
import Derived.BigQuiet
namespace Go.Proofs.YtdhloijdefnkpaaGreatDoor
open Go.RowKit Pl
open Lib (hid)
def weakName : ByteArray := ⟨#[119, 101, 97, 107]⟩
structure WkErr (p : Addr) (w : World) : Prop where
  sys : GErr 1 p w
  blk : ∃ c t, w.heap[p.block]? = some (.cells c t (0, 0))
  great : SentQ 3 p w
theorem WkErr.below {p : Addr} {w w' : World} (h : WkErr p w) (hB : Below w.heap.size w w') : WkErr p w' :=
  ⟨h.sys.below hB, by obtain ⟨c, t, h1⟩ := h.blk; exact ⟨c, t, by rw [hB.block _ (Array.getElem?_eq_some_iff.1 h1).1]; exact h1⟩, h.great.below hB⟩
def FaultW (w : World) (p : Addr) (v : Value) : Prop := ∃ vi, FaultAt w v weakName vi ∧ FaultAt w vi sysName (.iface 285 (.pointer (some p)))
theorem FaultW.below {w w' : World} {p : Addr} {v : Value} (h : FaultW w p v) (hB : Below w.heap.size w w') : FaultW w' p v := by
  obtain ⟨vi, h1, h2⟩ := h
  exact ⟨vi, h1.below hB, h2.below hB⟩
theorem SilT.lo0 {w : World} {lo sb n : Nat} {F : Nat → Nat → Bool} {I : List Nat} (h : SilT w lo sb n F I) : SilT w 0 sb n F I := by
  obtain ⟨bk, h1, h2⟩ := h.ex
  exact ⟨bk, h1, fun p hp => ⟨(h2 p hp).1, Nat.zero_le _, (h2 p hp).2.2⟩⟩
set_option maxRecDepth 100000 in
set_option maxHeartbeats 4000000 in
theorem ofW_any {p : Addr} {s : Lts} {n : Nat} (hr : s.Right) (hn : s.st = (n : Int)) (h300 : n ≤ 300) {a : Option Addr} {b off c : Nat} {w : World} (hG : WkErr p w) (hS : SlAt encE 3 w a b off s.es) :
    Calls Tryz.prog 56 #[.agg #[.int .i64 s.st, .int .i64 s.lb, .int .i64 s.s0, .slice a s.es.length c]] w fun e w' => ∃ (xb gb sb : Nat) (F : Nat → Nat → Bool), e = .returned (.tuple #[.pointer (some ⟨xb, 0, none⟩), .nilIface]) ∧ StepsAt w' xb gb sb n s F ∧ w.heap.size ≤ xb ∧ Below w.heap.size w w' := by
  have hB0 := (Below.refl w.heap.size w).alloc (Nat.le_refl _) (Obj.cells #[.int .i64 s.st, .int .i64 s.lb, .int .i64 s.s0, .slice a s.es.length c] 24)
  have hbx := heap_alloc_new w (Obj.cells #[.int .i64 s.st, .int .i64 s.lb, .int .i64 s.s0, .slice a s.es.length c] 24)
  have HNW := hid (new_ok (c := c) hr (hG.sys.below hB0) (hS.below hB0 (Nat.le_refl _)))
  obtain ⟨el, hel⟩ : ∃ el, el = s.es.length := ⟨_, rfl⟩
  have HG := hid hG; have HS := hid hS; have HB0 := hid hB0; have HBX := hid hbx; have HR := hid hr; have HN := hid hn; have HEL := hid hel
  rw [hn] at HNW HB0 HBX ⊢
  rw [← hel] at HNW HB0 HBX ⊢
  clear hG hS hB0 hbx hr hn hel
  go_enter Tryz.func56, Tryz.ntmps56
  go_wp2_with fail
  refine HNW.out.mono ?_
  rintro e w1 ⟨gb, rfl, hgr, hB1, _⟩
  have hb1 := HB0.out.trans (hB1.mono (by simp))
  have hx1 := (hB1.block w.heap.size (by simp)).trans HBX.out
  obtain ⟨x0, x1, x2, x3, x4⟩ := sysC hx1
  have hor := orderYes_any (c := c) HR.out HN.out (HG.out.sys.below hb1) (HS.out.below hb1 (Nat.le_refl _))
  rw [HN.out, ← HEL.out] at hor
  have HOR := hid hor; have HB1 := hid hb1; have HX1 := hid hx1; have HGR := hid hgr
  have h3I : ¬ (n : Int) > 300 := by omega
  clear hor hB1 hb1 hx1 hgr HNW HB0 HBX
  go_wp2_with fail
  refine HOR.out.mono ?_
  unfold OrdPost
  rintro e w2 ⟨g, D, v, hg, hD, hall, rfl, hown, hB2⟩
  have hb2 := HB1.out.trans (hB2.mono HB1.out.size)
  have hx2 := (hB2.block w.heap.size (Array.getElem?_eq_some_iff.1 HX1.out).1).trans HX1.out
  have hcy := cyclesYes_any (c := c) HR.out HN.out (HG.out.sys.below hb2) (HS.out.below hb2 (Nat.le_refl _))
  rw [HN.out, ← HEL.out] at hcy
  have HCY := hid hcy; have HB2 := hid hb2; have HX2 := hid hx2; have HGR2 := hid (HGR.out.below hB2)
  have HOW := hid hown; have HCG := hid hg; have HDD := hid hD; have HAL := hid hall
  clear x0 x1 x2 x3 x4
  obtain ⟨x0, x1, x2, x3, x4⟩ := sysC hx2
  clear hcy hB2 hb2 hx2 hown hg hD hall HOR HB1 HX1 HGR
  obtain ⟨vo, hvo⟩ : ∃ vo, vo = v := ⟨_, rfl⟩
  rw [← hvo] at HOW ⊢
  clear hvo
  go_wp2_with fail
  refine HCY.out.mono ?_
  rintro e w3 ⟨f, v3, hf, rfl, hown3, hB3⟩
  obtain ⟨hblk, hfg⟩ := BlkO.of_ord HR.out HN.out hf HCG.out HDD.out HAL.out
  have hown2 := HOW.out
  rw [hfg, ordO_K] at hown2
  have hol : ((ordO n f D).map Int.ofNat).length = n := by rw [List.length_map]; exact hblk.len
  obtain ⟨oa, oc, ob, rfl, _, _, hos, _⟩ := slAt_own (xs := (ordO n f D).map Int.ofNat) lenI (by rw [hol]; exact hown2)
  obtain ⟨ya, yc, yb, rfl, _, _, hys, _⟩ := slAt_own (xs := fl n (clf n f)) lenI (by rw [fl_len]; exact hown3)
  rw [hol, fl_len]
  have hb3 := HB2.out.trans (hB3.mono HB2.out.size)
  have hgr3 := HGR2.out.below hB3
  have HSI := hid (silentW_any (yc := yc) (oc := oc) hgr3 HR.out HN.out hblk hys (hos.below hB3 (Nat.le_refl _)))
  have HB3 := hid hb3; have HGR3 := hid hgr3
  clear x0 x1 x2 x3 x4 hown2 hown3 hblk hfg hf hol hos hys hB3 hb3 hgr3 HOW HCG HDD HAL HCY HB2 HX2 HGR2
  go_wp2_with fail
  refine HSI.out.mono ?_
  rintro e w4 ⟨sb, F, rfl, hsil, hsb, hB4, hF⟩
  have hb4 := HB3.out.trans (hB4.mono HB3.out.size)
  have hba := (Below.refl w4.heap.size w4).alloc (Nat.le_refl _) (Obj.cells #[.pointer (some ⟨gb, 0, none⟩), .slice (some ⟨sb, 0, none⟩) n n] 63)
  have hst : StepsAt (w4.alloc (Obj.cells #[.pointer (some ⟨gb, 0, none⟩), .slice (some ⟨sb, 0, none⟩) n n] 63)) w4.heap.size gb sb n s F :=
    ⟨heap_alloc_new w4 _, (HGR3.out.below hB4).below hba, HR.out, HN.out, (hsil.lo0).call hba, hF⟩
  have HST := hid hst; have HBF := hid (hb4.trans (hba.mono hb4.size))
  have hwl : w.heap.size ≤ w4.heap.size := hb4.size
  clear hsil hsb hB4 hF hb4 hba hst HSI HB3 HGR3
  go_wp2_with fail
  go_ret2
  exact ⟨_, gb, sb, F, rfl, HST.out, hwl, HBF.out⟩
set_option maxRecDepth 100000 in
set_option maxHeartbeats 4000000 in
theorem madeW_any {p : Addr} {s : Lts} {n : Nat} (hr : s.Right) (hn : s.st = (n : Int)) (h300 : n ≤ 300) {a : Option Addr} {b off c : Nat} {w : World} (hG : WkErr p w) (hS : SlAt encE 3 w a b off s.es) :
    Calls Tryz.prog 29 #[.agg #[.int .i64 s.st, .int .i64 s.lb, .int .i64 s.s0, .slice a s.es.length c]] w fun e w' => ∃ (xb gb sb : Nat) (F : Nat → Nat → Bool), e = .returned (.tuple #[.pointer (some ⟨xb, 0, none⟩), .nilIface]) ∧ StepsAt w' xb gb sb n s F ∧ w.heap.size ≤ xb ∧ Below w.heap.size w w' := by
  have hB0 := (Below.refl w.heap.size w).alloc (Nat.le_refl _) (Obj.cells #[.int .i64 s.st, .int .i64 s.lb, .int .i64 s.s0, .slice a s.es.length c] 24)
  have HOF := hid (ofW_any (c := c) hr hn h300 (hG.below hB0) (hS.below hB0 (Nat.le_refl _)))
  have HG := hid hG; have HB0 := hid hB0
  clear hG hS hB0 hr hn h300
  go_enter Tryz.func29, Tryz.ntmps29
  go_wp2_with fail
  refine HOF.out.mono ?_
  rintro e w1 ⟨xb, gb, sb, F, rfl, hX, hxb, hB1⟩
  have hb1 := HB0.out.trans (hB1.mono (by simp))
  obtain ⟨q, cq, tq, hgq, _, _⟩ := (HG.out.below hb1).great
  have g0 := hgq.cell; have gl := hgq.lt
  have HX := hid hX; have HB1 := hid hb1
  have hxl : w.heap.size ≤ xb := by simp at hxb; omega
  clear hX hxb hB1 hb1 hgq HOF HB0
  go_wp2_with fail
  refine (isNilE_any _ _).mono ?_
  rintro e w2 ⟨rfl, rfl⟩
  go_wp2_with fail
  go_ret2
  exact ⟨xb, gb, sb, F, rfl, HX.out, hxl, HB1.out⟩
end Go.Proofs.YtdhloijdefnkpaaGreatDoor
namespace Go.Proofs.YtdhloijdefnkpaaGreatDoor
open Go.RowKit Pl
def KeepI (hi : Nat) (w w' : World) : Prop := ∀ b, b < hi → ∀ c ty z, w.heap[b]? = some (.cells c ty z) → ty ≠ 3 → w'.heap[b]? = w.heap[b]?
theorem KeepI.row {hi b n : Nat} {t : TypeId} {f : Nat → Value} {w w' : World} (hk : KeepI hi w w') (h : w.rowIs b t n f) (hb : b < hi) (ht : t ≠ 3) : w'.rowIs b t n f := by
  obtain ⟨c, h1, _, _⟩ := id h
  exact h.of_block (hk b hb _ _ _ h1 ht)
theorem KeepI.setCell {hi nb n : Nat} {f : Nat → Value} {w : World} (h : w.rowIs nb 3 n f) (i : Nat) (v : Value) : KeepI hi w (w.setCell ⟨nb, i, none⟩ v) := fun b hb c ty z h1 ht => by
  refine Below.heap_setCell _ _ _ _ (fun e => ?_)
  obtain ⟨c', h2, _, _⟩ := h
  change b = nb at e
  subst e
  rw [h1] at h2
  simp only [Option.some.injEq, Obj.cells.injEq] at h2
  exact ht h2.2.1
theorem KeepI.grown {hi ab : Nat} {w w' : World} (hg : w.grownBy w' (some ab)) (hm : ∃ es clock, w.heap[ab]? = some (.map es clock)) : KeepI hi w w' := fun b hb c ty z h1 ht => by
  refine hg.block b (Array.getElem?_eq_some_iff.1 h1).1 (fun e => ?_)
  obtain ⟨es, cl, h2⟩ := hm
  cases Option.some.inj e
  rw [h1] at h2
  cases h2
theorem WkR.kept {w w' : World} {tb hi rb lb WD : Nat} {R : Nat → Option (Nat → Bool)} (h : WkR w tb hi rb lb WD R) (hk : KeepI hi w w') : WkR w' tb hi rb lb WD R := by
  obtain ⟨bk, h1, h2⟩ := h.ex
  exact ⟨h.lt, h.ne, bk, hk.row h1 h.lt (by decide), fun l hl F hF => ⟨hk.row (h2 l hl F hF).1 (h2 l hl F hF).2.1 (by decide), (h2 l hl F hF).2⟩⟩
theorem WkT.kept {w w' : World} {hi tb n lb WD i : Nat} {x : Value} {T : Nat → Nat → Option (Nat → Bool)} (h : WkT w hi tb n lb WD i x T) (hk : KeepI hi w w') : WkT w' hi tb n lb WD i x T := by
  obtain ⟨rbk, h1, h2⟩ := h.ex
  exact ⟨h.lt, rbk, hk.row h1 h.lt (by decide), fun p hp => (h2 p hp).kept hk⟩
theorem keyS_len (W : Nat) (R : Nat → Option (Nat → Bool)) (l : Nat) : (keyS W R l).length ≤ 1 + 8 * W := by
  unfold keyS
  cases R l with
  | none => simp
  | some F => simp only [List.length_cons, bytesW_len]; omega
theorem keys_len (W : Nat) (R : Nat → Option (Nat → Bool)) : ∀ r, ((List.range r).flatMap (keyS W R)).length ≤ r * (1 + 8 * W)
  | 0 => by simp
  | r + 1 => by
    have h1 := keys_len W R r
    have h2 := keyS_len W R r
    rw [List.range_succ, List.flatMap_append, List.length_append, Nat.succ_mul]
    simp only [List.flatMap_cons, List.flatMap_nil, List.append_nil]
    omega
theorem keys_len2 {W r : Nat} (R : Nat → Option (Nat → Bool)) (hW : W ≤ 16) (hr : r ≤ 201) : ((List.range r).flatMap (keyS W R)).length ≤ 26000 := by
  have h1 := keys_len W R r
  have h2 : r * (1 + 8 * W) ≤ 201 * 129 := Nat.mul_le_mul hr (by omega)
  omega
theorem keys_snoc (W : Nat) (R : Nat → Option (Nat → Bool)) (r : Nat) : (List.range (r + 1)).flatMap (keyS W R) = (List.range r).flatMap (keyS W R) ++ keyS W R r := by
  rw [List.range_succ, List.flatMap_append]; simp
end Go.Proofs.YtdhloijdefnkpaaGreatDoor
namespace Go.Proofs.YtdhloijdefnkpaaGreatDoor
open Go.RowKit Pl
open Lib (hid)
structure BldAt (w : World) (b lo : Nat) (bs : List UInt8) : Prop where
  lt : b < lo
  ex : ∃ p v, (p = .pointer none ∨ p = .pointer (some ⟨b, 0, none⟩)) ∧ w.heap[b]? = some (.cells #[p, v] 114 (0, 0)) ∧ w.ownsRow lo 5 1 v bs.length (Lib.byteCells bs)
theorem bldSize : (Tryz.prog.info? 114).map (·.size) = some 2 := by kernel_rfl
theorem bldLies : liesAt Tryz.prog Tryz.prog.depth 114 (2 / Tryz.prog.cellsOf 114) 0 114 1 = true := by kernel_rfl
theorem bldExtra : Builder.Extra Tryz.prog Tryz.strS_ren where
  sizeBuilder := by kernel_rfl
  liesBuilder := by kernel_rfl
  t5 := Tryz.underlying5
  a5 := Tryz.isAgg5
  z5 := Tryz.sizeOf5
  v5 := Tryz.zeroValue5
  infoByte := by kernel_rfl
  cellsByte := by kernel_rfl
  sizeByte := by kernel_rfl
  neB5 := by decide
set_option maxRecDepth 100000 in
set_option maxHeartbeats 1000000 in
theorem copyCheck_any {w : World} {b : Nat} {p v : Value} (hp : p = .pointer none ∨ p = .pointer (some ⟨b, 0, none⟩)) (h : w.heap[b]? = some (.cells #[p, v] 114 (0, 0))) :
    Calls Tryz.prog 111 #[.pointer (some ⟨b, 0, none⟩)] w fun e w' => e = .returned (.tuple #[]) ∧ w'.heap[b]? = some (.cells #[.pointer (some ⟨b, 0, none⟩), v] 114 (0, 0)) ∧ Chg w w' b := by
  have c0 : w.cell? ⟨b, 0, none⟩ = some p := by simp [World.cell?, h]
  have f0 : w.frozen? ⟨b, 0, none⟩ = false := by simp [World.frozen?, h]
  have bl := (Array.getElem?_eq_some_iff.1 h).1
  obtain ⟨j, hj, hjs⟩ := Option.map_eq_some_iff.1 bldSize
  rcases hp with rfl | rfl
  · have HS := hid (heap_setCell_same w b 0 _ _ (.pointer (some ⟨b, 0, none⟩)) h)
    have hsh : w.shape? b = some (114, 2) := by simp [World.shape?, h]
    clear h
    go_enter Tryz.func111, Tryz.ntmps111
    go_wp2
    rw [Lib.run_to_unsafe w ⟨b, 0, none⟩ Tryz.underlying111 Tryz.underlying172 hj (by rw [hjs]; decide) hsh (Nat.zero_lt_succ 1)]
    simp only [Result.andThen]
    rw [Oper.upon_value]
    go_wp2
    rw [run_callFunc_extern Tryz.func142 (by kernel_rfl) (by kernel_rfl) (by kernel_rfl) (e := Extern.AbiNoEscape.same) (by kernel_rfl)]
    rw [Lib.run_noEscape]
    simp only [Result.andThen]
    rw [Oper.upon_value]
    go_wp2
    rw [Lib.run_from_unsafe w ⟨b, 0, none⟩ Tryz.underlying172 Tryz.underlying111 hj hsh bldLies]
    simp only [Result.andThen]
    rw [Oper.upon_value]
    go_wp2
    go_end0
    exact ⟨rfl, HS.out, (Chg.refl w b).set 0 _⟩
  · have HH := hid h
    clear h
    go_enter Tryz.func111, Tryz.ntmps111
    go_wp2
    rw [Lib.run_neq_ptr_same w _ Tryz.underlying111 hj]
    go_wp2
    go_end0
    exact ⟨rfl, HH.out, Chg.refl w b⟩
structure BldW (w w' : World) (b lo : Nat) : Prop where
  oth : ∀ g, g ≠ b → g < lo → g < w.heap.size → w'.heap[g]? = w.heap[g]?
  size : w.heap.size ≤ w'.heap.size
  bel : Below b w w'
theorem BldW.refl (w : World) (b lo : Nat) : BldW w w b lo := ⟨fun _ _ _ _ => rfl, Nat.le_refl _, Below.refl _ _⟩
theorem BldW.trans {w w' w'' : World} {b lo : Nat} (h : BldW w w' b lo) (h' : BldW w' w'' b lo) : BldW w w'' b lo :=
  ⟨fun g hg hl hs => (h'.oth g hg hl (Nat.lt_of_lt_of_le hs h.size)).trans (h.oth g hg hl hs), Nat.le_trans h.size h'.size, h.bel.trans h'.bel⟩
theorem rowU8W : IsRow Tryz.prog 112 5 1 1 (.int .u8 0) := isRow_of Tryz.underlying112 (by kernel_rfl) rfl (by decide)
theorem byteCells_snoc (bs : List UInt8) (c : UInt8) : Lib.byteCells (bs ++ [c]) = Lib.byteCells bs ++ [.int .u8 c.toNat] := by simp [Lib.byteCells]
set_option maxRecDepth 100000 in
set_option maxHeartbeats 2000000 in
theorem writeByte_any {w : World} {b lo : Nat} {bs : List UInt8} (h : BldAt w b lo bs) (hlo : lo ≤ w.heap.size) (hl : bs.length + 1 ≤ 100000000) (c : UInt8) :
    Calls Tryz.prog 68 #[.pointer (some ⟨b, 0, none⟩), .int .u8 c.toNat] w fun e w' => e = .returned .nilIface ∧ BldAt w' b lo (bs ++ [c]) ∧ BldW w w' b lo := by
  obtain ⟨p, v, hp, hb, hown⟩ := h.ex
  obtain ⟨va, vc, rfl⟩ : ∃ va vc, v = .slice va bs.length vc := by
    rcases hown.2 with ⟨h1, h2⟩ | ⟨g, cap, cur, h1, _⟩
    · exact ⟨none, 0, by rw [h1, h2]⟩
    · exact ⟨some ⟨g, 0, none⟩, cap, h1⟩
  have hblo := h.lt
  have HCC := hid (copyCheck_any hp hb)
  have HO := hid hown
  clear h hp hb hown
  go_enter Tryz.func68, Tryz.ntmps68
  go_wp2_with fail
  refine HCC.out.mono ?_
  rintro e w1 ⟨rfl, hb1, hch⟩
  have c1 : w1.cell? ⟨b, 1, none⟩ = some (.slice va bs.length vc) := by simp [World.cell?, hb1]
  have bl1 := (Array.getElem?_eq_some_iff.1 hb1).1
  have hown1 : w1.ownsRow lo 5 1 (.slice va bs.length vc) bs.length (Lib.byteCells bs) := own_blockR HO.out (fun g hg => hch.oth g (by have := (HO.out.lt g hg).1; omega) (HO.out.lt g hg).2)
  have hs1 : w1.heap.size = w.heap.size := hch.size
  have HO1 := hid hown1; have HCH := hid hch; have HB1 := hid hb1
  have hlo1 : lo ≤ w1.heap.size := by omega
  have HS1 := hid hs1
  clear hown1 hch hb1 HCC HO hs1
  go_wp2_with (at_builtin; go_must (refine wpList_app1 rfl _ _ _ rfl rowU8W (Below.refl _ _) (show lo ≤ (w1.alloc (.cells #[.int .u8 c.toNat] 5)).heap.size by simp only [World.size_alloc]; omega) (by rfl) (HO1.out.alloc _) ⟨w1.heap.size, 0, none⟩ 1 1 [.int .u8 c.toNat] rfl rfl (cells1 (by simp [go_sem])) (by simp [Value.oneCell']) (by decide) (by omega) (by unfold maxLen; omega) ?_); intro g cap w7 hown7 _ hg7; go_must (have hbo : w7.heap[b]? = some (.cells #[.pointer (some ⟨b, 0, none⟩), .slice va bs.length vc] 114 (0, 0)) := (hg7.block b (Nat.lt_of_lt_of_le bl1 (by rw [World.size_alloc]; exact Nat.le_succ _)) (fun e => Nat.lt_irrefl _ (Nat.lt_of_lt_of_le hblo (HO1.out.lt b e.symm).1))).trans ((Lib.alloc_old w1 _ b bl1).trans HB1.out)); go_must (have q1 : w7.cell? ⟨b, 1, none⟩ = some (.slice va bs.length vc) := (by simp [World.cell?, hbo]); have q2 : w7.frozen? ⟨b, 1, none⟩ = false := (by simp [World.frozen?, hbo]); have q3 : b < w7.heap.size := (Array.getElem?_eq_some_iff.1 hbo).1; have q4 : w7.cell? ⟨b, 0, none⟩ = some (.pointer (some ⟨b, 0, none⟩)) := by simp [World.cell?, hbo]))
  have hs1 := HS1.out
  have hb8 := heap_setCell_same w7 b 1 _ _ (.slice (some ⟨g, 0, none⟩) (bs.length + 1) cap) hbo
  have hown8 : w7.ownsRow lo 5 1 (.slice (some ⟨g, 0, none⟩) (bs.length + 1) cap) (bs ++ [c]).length (Lib.byteCells (bs ++ [c])) := by rw [byteCells_snoc, List.length_append]; exact hown7
  have HO8 := hid (ownsRow_setCell_below (a := ⟨b, 1, none⟩) hown8 hblo (.slice (some ⟨g, 0, none⟩) (bs.length + 1) cap))
  have HB8 := hid hb8
  have hbw : BldW w (w7.setCell ⟨b, 1, none⟩ (.slice (some ⟨g, 0, none⟩) (bs.length + 1) cap)) b lo := by
    refine ⟨fun x hx hxl hxs => ?_, by rw [size_setCell]; have := hg7.size; simp only [World.size_alloc] at this; omega, ?_⟩
    · rw [Below.heap_setCell _ _ _ _ hx, hg7.block x (by simp only [World.size_alloc]; omega) (fun e => by have := (HO1.out.lt x e.symm).1; omega), Lib.alloc_old w1 _ x (by omega)]
      exact HCH.out.oth x hx hxs
    · exact ((((HCH.out.bel b (Nat.le_refl _))).alloc (by omega) _).grown hg7 (by simp only [World.size_alloc]; omega) (fun k hk => by have := (HO1.out.lt k hk).1; omega)).setCell (Nat.le_refl _) _
  have HBW := hid hbw
  clear hs1 hown7 hg7 hown8 hbo hb8 hbw c1
  go_wp2_with fail
  go_ret
  exact ⟨rfl, ⟨hblo, _, _, .inr rfl, HB8.out, HO8.out⟩, HBW.out⟩
theorem BldAt.call {w w' : World} {b lo : Nat} {bs : List UInt8} (h : BldAt w b lo bs) (hB : Below w.heap.size w w') : BldAt w' b lo bs := by
  obtain ⟨p, v, hp, hb, hown⟩ := h.ex
  exact ⟨h.lt, p, v, hp, (hB.block b (Array.getElem?_eq_some_iff.1 hb).1).trans hb, own_below hown hB⟩
set_option maxRecDepth 100000 in
theorem string_any {w : World} {b lo : Nat} {bs : List UInt8} (h : BldAt w b lo bs) :
    Calls Tryz.prog 69 #[.pointer (some ⟨b, 0, none⟩)] w fun e w' => e = .returned (.string ⟨bs.toArray⟩) ∧ Lib.IsBuilderF 114 5 b b (Lib.byteCells bs) w' ∧ Below b w w' ∧ Lib.OthersKept 5 (some b) w w' := by
  obtain ⟨p, v, hp, hb, hown⟩ := h.ex
  have hlt := h.lt
  have hI : Lib.IsBuilderF 114 5 b b (Lib.byteCells bs) w := by
    have hat : Lib.BuilderAt 114 5 b b p (Lib.byteCells bs) w := ⟨Nat.le_refl _, v, hb, by rw [Lib.byteCells_length]; exact own_mono hown (by omega), fun e => by have := (hown.lt b e).1; omega⟩
    refine Lib.IsBuilderF.of ?_
    rcases hp with rfl | rfl
    · exact .inl hat
    · exact .inr hat
  exact Any.Builder_String_any_k Tryz.strS bldExtra b b bs w hI (Nat.le_of_lt (Array.getElem?_eq_some_iff.1 hb).1)
theorem stringF_any {w : World} {b : Nat} {bs : List UInt8} (h : Lib.IsBuilderF 114 5 b b (Lib.byteCells bs) w) (hb : b ≤ w.heap.size) :
    Calls Tryz.prog 69 #[.pointer (some ⟨b, 0, none⟩)] w fun e w' => e = .returned (.string ⟨bs.toArray⟩) ∧ Lib.IsBuilderF 114 5 b b (Lib.byteCells bs) w' ∧ Below b w w' ∧ Lib.OthersKept 5 (some b) w w' :=
  Any.Builder_String_any_k Tryz.strS bldExtra b b bs w h hb
theorem by8_take (x k : Nat) (hk : k < 8) : (by8 x).take (k + 1) = (by8 x).take k ++ [UInt8.ofNat (x >>> (8 * k))] := take_snoc (by
  unfold by8
  rw [List.getElem?_map, List.getElem?_range hk]; rfl)
set_option maxRecDepth 100000 in
set_option maxHeartbeats 4000000 in
theorem textW_any {w : World} {b lo rb W : Nat} {F : Nat → Bool} {bs : List UInt8} (h : BldAt w b lo bs) (hlo : lo ≤ w.heap.size) (hr : BitRow w rb W F) (hrl : rb < lo) (hrb : rb ≠ b) (hW : W ≤ 100) (hl : bs.length ≤ 10000000) :
    Calls Tryz.prog 67 #[.slice (some ⟨rb, 0, none⟩) W W, .pointer (some ⟨b, 0, none⟩)] w fun e w' => e = .returned (.tuple #[]) ∧ BldAt w' b lo (bs ++ bytesW F W) ∧ BldW w w' b lo := by
  have H := hid h; have HR := hid hr
  have hrw := hr.lt
  clear h hr
  go_enter Tryz.func67, Tryz.ntmps67
  go_wp2_with fail
  go_loopw [5, 6, 9] (fun _ _ v9 wr => ∃ j : Nat, v9 = .int .i64 j ∧ j ≤ W ∧ BldAt wr b lo (bs ++ bytesW F j) ∧ BldW w wr b lo) (fun _ _ v9 _ => W - (intOf v9).toNat)
  case atStart => exact ⟨0, rfl, Nat.zero_le _, by simpa [bytesW] using H.out, BldW.refl _ _ _⟩
  case round =>
    obtain ⟨j, rfl, hj, hbl, hbw⟩ := hrel
    have HBL := hid hbl; have HBW := hid hbw
    have hws := hbw.size
    clear hbl hbw H
    by_cases hjW : j < W
    · have hrr : BitRow wr rb W F := HR.out.of_block (HBW.out.oth rb hrb hrl hrw)
      have c0 := hrr.cell hjW
      have cl := hrr.lt
      have hxl := wj_lt F j
      obtain ⟨x, hx⟩ : ∃ x, x = wj F j := ⟨_, rfl⟩
      rw [← hx] at c0 hxl
      have hlen := bytesW_len F j
      have HX := hid hx; have HXL := hid hxl
      have hjI : (j : Int) < (W : Int) := by omega
      have HLEN : Hid ((bs ++ bytesW F j).length ≤ 10000800) := hid (by rw [List.length_append, hlen]; omega)
      obtain ⟨b1, hb1⟩ : ∃ b1, b1 = bs ++ bytesW F j := ⟨_, rfl⟩
      rw [← hb1] at HBL HLEN
      have HB1 := hid hb1
      clear hrr hx hlen hb1 hxl
      go_wp2_with fail
      go_loopw [6, 13] (fun _ v13 wx => ∃ k : Nat, v13 = .int .i64 k ∧ k ≤ 8 ∧ BldAt wx b lo (b1 ++ (by8 x).take k) ∧ BldW w wx b lo) (fun _ v13 _ => 8 - (intOf v13).toNat)
      case atStart => exact ⟨0, rfl, by omega, by simpa using HBL.out, HBW.out⟩
      case round =>
        obtain ⟨k, rfl, hk, hbl, hbw⟩ := hrel
        have HBL2 := hid hbl; have HBW2 := hid hbw
        have hws2 := hbw.size
        clear hbl hbw HBL HBW
        by_cases hk8 : k < 8
        · have hkI : (k : Int) < 8 := by omega
          have HWB := hid (writeByte_any HBL2.out (by omega) (by have := HLEN.out; rw [List.length_append, List.length_take, by8_len]; omega) (UInt8.ofNat (x >>> (8 * k))))
          have hsh : (x : Int) / 2 ^ (8 * k) % 256 = (((UInt8.ofNat (x >>> (8 * k))).toNat : Nat) : Int) := by
            rw [UInt8.toNat_ofNat', Nat.shiftRight_eq_div_pow]
            simp
          have HTK : Hid (b1 ++ (by8 x).take (k + 1) = (b1 ++ (by8 x).take k) ++ [UInt8.ofNat (x >>> (8 * k))]) := hid (by rw [by8_take x k hk8, List.append_assoc])
          have HSH := hid hsh
          clear hsh
          go_wp2_with fail
          rw [HSH.out]
          refine HWB.out.mono ?_
          rintro e w5 ⟨rfl, hbl5, hbw5⟩
          have HB5 := hid hbl5; have HW5 := hid (HBW2.out.trans hbw5)
          clear hbl5 hbw5 HWB HBL2 HBW2
          go_wp2_with fail
          go_roundw
          case rel => exact ⟨k + 1, by go_num, by omega, by rw [HTK.out]; exact HB5.out, HW5.out⟩
          case measure => simp [intOf]; omega
        · obtain rfl : k = 8 := by omega
          have HB5 : Hid (BldAt wr b lo (bs ++ bytesW F (j + 1))) := hid (by
            have h1 := HBL2.out
            rw [List.take_of_length_le (by rw [by8_len]; omega), HB1.out, List.append_assoc, HX.out, ← bytesW_succ] at h1
            exact h1)
          clear HBL2
          go_wp2_with fail
          go_roundw
          case rel => exact ⟨j + 1, by go_num, by omega, HB5.out, HBW2.out⟩
          case measure => simp [intOf]; omega
    · obtain rfl : j = W := by omega
      go_wp2_with fail
      go_end0
      exact ⟨rfl, HBL.out, HBW.out⟩
end Go.Proofs.YtdhloijdefnkpaaGreatDoor
