/-
  Lemmas.
-/
import Derived.Test.YtbaccmlfnbgehaaGreatDoorGBrQ
import Derived.Test.YtbaccmlfnbgehaaGreatDoorGMem
import Derived.Test.YtbaccmlfnbgehaaGreatDoorGCanon
import Derived.StringKeys
import Derived.Test.YtbaccmlfnbgehaaGreatDoorGPl5
import Derived.Test.YtbaccmlfnbgehaaGreatDoorWkG
import Derived.Test.YtbaccmlfnbgehaaGreatDoorGOMap
import Derived.Test.YtbaccmlfnbgehaaGreatDoorGWkM
import Derived.Test.YtbaccmlfnbgehaaGreatDoorShelf
import Derived.Shelf.Strings.BuilderK
import Derived.Deep.QuietTactic
import Derived.BigQuiet
set_option maxHeartbeats 4000000
set_option maxRecDepth 100000
open Array renaming getElem?_eq_some_iff → l0
open List renaming length_append → l1, range → l3, flatMap_append → l4, append_assoc → l6, range_succ → l7
open Nat renaming lt_of_lt_of_le → l2, le_refl → l5
open Go.Proofs.Tryz
namespace Go.Proofs.YtbaccmlfnbgehaaGreatDoor
namespace Pl
def al13 : Lts := ⟨4, 2, 0, [(0, 0, 1), (1, 1, 2), (3, 1, 2)]⟩
theorem y0u : al13.Right := ⟨by unfold HeadBad al13; simp, by decide⟩
theorem x0c {a b : Nat} {l : Int} : stp al13 a l b ↔ (a = 0 /\ l = 0 /\ b = 1) ∨ (a = 1 /\ l = 1 /\ b = 2) ∨ (a = 3 /\ l = 1 /\ b = 2) := by
 unfold stp al13
 simp only [List.mem_cons, Prod.mk.injEq, List.not_mem_nil, or_false]
 omega
theorem p1l {a b : Nat} : TR al13 a b ↔ a = b ∨ (a = 0 /\ b = 1) := by
 constructor
 · (
 intro h
 induction h with
 | refl => exact .inl rfl
 | tail _ h2 ih =>
   have := x0c.1 h2
   omega)
 · rintro (rfl | ⟨rfl, rfl⟩)
   · exact .refl
   · exact TR.one (x0c.2 (.inl ⟨rfl, rfl, rfl⟩))
theorem p0d {a b : Nat} {l : Int} : wst al13 a l b ↔ (l = 0 /\ (a = b ∨ (a = 0 /\ b = 1))) ∨ (l = 1 /\ b = 2 /\ (a = 0 ∨ a = 1 ∨ a = 3)) := by
 by_cases hl : l = 0
 · subst hl
   rw [z1q, p1l]
   omega
 · (
 rw [u2c hl]
 constructor
 · rintro ⟨m, t, h1, h2, h3⟩
   have h1 := p1l.1 h1; have h2 := x0c.1 h2; have h3 := p1l.1 h3
   omega
 · (
 intro h
 have h5 : l = 1 /\ b = 2 /\ (a = 0 ∨ a = 1 ∨ a = 3) := by omega
 clear h
 obtain ⟨rfl, rfl, h6⟩ := h5
 rcases h6 with rfl | rfl | rfl
 · exact ⟨1, 2, p1l.2 (.inr ⟨rfl, rfl⟩), x0c.2 (.inr (.inl ⟨rfl, rfl, rfl⟩)), .refl⟩
 · exact ⟨1, 2, .refl, x0c.2 (.inr (.inl ⟨rfl, rfl, rfl⟩)), .refl⟩
 · exact ⟨3, 2, .refl, x0c.2 (.inr (.inr ⟨rfl, rfl, rfl⟩)), .refl⟩))
def al13K (p l q : Nat) : Bool := (decide (l = 0) && (decide (p = q) || (decide (p = 0) && decide (q = 1)))) || (decide (l = 1) && decide (q = 2) && (decide (p = 0) || decide (p = 1) || decide (p = 3)))
theorem p1m : KOk al13 4 2 al13K := by
 intro p l q _ _ _
 rw [p0d]
 unfold al13K
 simp only [Bool.or_eq_true, Bool.and_eq_true, decide_eq_true_eq]
 omega
theorem v2v {K : Nat -> Nat -> Nat -> Bool} (h : KOk al13 4 2 K) : (satE 4 2 K).length = 8 := by
 rw [h.eq p1m]
 decide
theorem v2x {K : Nat -> Nat -> Nat -> Bool} (hK : KOk al13 4 2 K) {C : Nat -> Int} (h : Big (satS al13 4 2 K) 4 C) : C 1 = C 0 /\ C 3 = C 0 /\ C 2 ≠ C 0 := by
 have hs : ∀ {p q : Nat} {l : Int}, stp (satS al13 4 2 K) p l q ↔ p < 4 /\ wst al13 p l q := x1p y0u rfl rfl hK
 have hR : IsBis (satS al13 4 2 K) 4 (fun p q => (p = 2 ↔ q = 2)) := by (
 intro p q hp hq hpq
 constructor
 · (
 intro l t ht hst
 have h1 := p0d.1 (hs.1 hst).2
 by_cases hl : l = 0
 · refine ⟨q, hq, hs.2 ⟨hq, p0d.2 (.inl ⟨hl, .inl rfl⟩)⟩, ?_⟩
   omega
 · refine ⟨2, by omega, hs.2 ⟨hq, p0d.2 (.inr ⟨by omega, rfl, by omega⟩)⟩, ?_⟩
   omega)
 · (
 intro l t ht hst
 have h1 := p0d.1 (hs.1 hst).2
 by_cases hl : l = 0
 · refine ⟨p, hp, hs.2 ⟨hp, p0d.2 (.inl ⟨hl, .inl rfl⟩)⟩, ?_⟩
   omega
 · refine ⟨2, by omega, hs.2 ⟨hp, p0d.2 (.inr ⟨by omega, rfl, by omega⟩)⟩, ?_⟩
   omega))
 refine ⟨h.all _ hR 1 0 (by omega) (by omega) (by omega), h.all _ hR 3 0 (by omega) (by omega) (by omega), fun e => ?_⟩
 obtain ⟨u, _, h1, _⟩ := (h.bis 2 0 (by omega) (by omega) e).2 1 2 (by omega) (hs.2 ⟨by omega, p0d.2 (.inr ⟨rfl, rfl, .inl rfl⟩)⟩)
 have := p0d.1 (hs.1 h1).2
 omega
theorem v2w {K : Nat -> Nat -> Nat -> Bool} (hK : KOk al13 4 2 K) {C : Nat -> Int} (h : Big (satS al13 4 2 K) 4 C) (hc : canon (fl 4 C) = fl 4 C) : C 3 = 0 /\ C 2 = 1 := by
 obtain ⟨h1, h3, h2⟩ := v2x hK h
 have hfl : fl 4 C = [C 0, C 0, C 2] ++ [C 0] := by unfold fl; simp [l3, l3.loop, h1, h3]
 have hd : dist [C 0, C 0, C 2] = [C 0, C 2] := by
   unfold dist addN
   simp [h2]
 have k0 : (dist (fl 4 C)).idxOf (C 0) = 0 := by
   rw [hfl, y0q _ _ (by simp), hd]; simp
 have k2 : (dist (fl 4 C)).idxOf (C 2) = 1 := by (
 rw [hfl, y0q _ _ (by simp), hd]
 have hb2 : (C 0 == C 2) = false := by simp [Ne.symm h2]
 simp [List.idxOf_cons, hb2])
 have g3 : (fl 4 C)[3]? = some (C 3) := j0t (n := 4) (i := 3) C (by omega)
 have g2 : (fl 4 C)[2]? = some (C 2) := j0t (n := 4) (i := 2) C (by omega)
 have e3 : (canon (fl 4 C))[3]? = some (C 3) := by rw [hc]; exact g3
 have e2 : (canon (fl 4 C))[2]? = some (C 2) := by rw [hc]; exact g2
 rw [y0i, g3] at e3
 rw [y0i, g2] at e2
 simp only [Option.map_some, Option.some.injEq] at e3 e2
 rw [h3, k0] at e3
 rw [k2] at e2
 exact ⟨by rw [h3, <- e3]; rfl, by rw [<- e2]; rfl⟩
end Pl
end Go.Proofs.YtbaccmlfnbgehaaGreatDoor
namespace Go.Proofs.YtbaccmlfnbgehaaGreatDoor
open Go.RowKit Pl Go.Maps
section
variable {α : Type} {enc : α -> List Value} {k : Nat} {e T : TypeId} {w w' : World} {base ob n : Nat} {f : Nat -> List α}
theorem OwnRows.congr {g : Nat -> List α} (h : OwnRows enc k e T w base ob n f) (hf : ∀ i, f i = g i) : OwnRows enc k e T w base ob n g := by
 have : f = g := funext hf
 rw [<- this]; exact h
theorem OwnRows.put (h : OwnRows enc k e T w base ob n f) {p : Nat} (hB : Below w.heap.size w w') (hbs : base <= w.heap.size) {v : Value} {ys : List α} (ho : w'.ownsRow w.heap.size e k v ys.length (ys.flatMap enc)) :
    OwnRows enc k e T (w'.setCell ⟨ob, p, none⟩ v) base ob n (fun i => if i = p then ys else f i) := by
 obtain ⟨vs, h1, h2, h3⟩ := h.ex
 refine ⟨⟨fun i => if i = p then v else vs i, (h1.of_block (hB.block ob h1.lt)).set p v, fun q hq => ?_, ?_⟩, h.lt⟩
 · (
 by_cases e1 : q = p
 · subst e1
   simp only [if_true]
   exact ownsRow_setCell_below (j0r ho hbs) h.lt _
 · simp only [if_neg e1]
   exact ownsRow_setCell_below (own_below (h2 q hq) hB) h.lt _)
 · (
 intro a b g ha hb hab hga
 by_cases e1 : a = p
 · (
 subst e1
 simp only [if_true] at hga
 simp only [if_neg (Ne.symm hab)]
 intro e2
 have h4 := (ho.lt g hga).1
 have h5 := ((h2 b hb).lt g e2).2
 omega)
 · (
 simp only [if_neg e1] at hga
 by_cases e2 : b = p
 · (
 subst e2
 simp only [if_true]
 intro e3
 have h4 := (ho.lt g e3).1
 have h5 := ((h2 a ha).lt g hga).2
 omega)
 · simp only [if_neg e2]; exact h3 a b g ha hb hab hga))
end
def encTx (x : List UInt8) : Value := .string ⟨x.toArray⟩
def okTx (x : List UInt8) : Prop := x.length <= 1000000
theorem x2h : KeyEnc prog 9 encTx okTx where
  K := string_keyed underlying9
  key x h := ⟨_, Go.WideMaps.keyOf_string_mk underlying9 (by unfold maxLen; unfold okTx at h; show x.toArray.size <= _; rw [List.size_toArray]; omega)⟩
  inj x y h := by
    unfold encTx at h
    simp only [Value.string.injEq, ByteArray.mk.injEq] at h
    exact congrArg Array.toList h |>.trans (by rfl) |> fun e => by simpa using e
end Go.Proofs.YtbaccmlfnbgehaaGreatDoor
namespace Go.Proofs.YtbaccmlfnbgehaaGreatDoor
open Go.RowKit Pl
theorem j1y {w : World} {b n : Nat} {f : Nat -> Int} (h : w.rowIs b 3 n (fun i => .int .i64 (f i))) : SlAt encI 1 w (some ⟨b, 0, none⟩) b 0 (fl n f) where
  ad _ := rfl
  lt _ := h.lt
  cell := by
    intro i x hx j u hu
    have hi : i < n := by have := (List.getElem?_eq_some_iff.1 hx).1; rwa [j0v] at this
    rw [j0t f hi] at hx
    cases hx
    match j, hu with
    | 0, hu => simp [encI] at hu; subst hu; simpa using h.cell hi
theorem j3v {n i : Nat} {G : Nat -> Int} (hi : i < n) : (fl n G).getD i 0 = G i := by
 rw [List.getD_eq_getElem?_getD, j0t G hi]; rfl
theorem u1y {n i : Nat} {G : Nat -> Int} (hi : i < n) : rowAtK (fl n G) n i = .int .i64 (clf n G i) := by
 unfold rowAtK clf
 rw [if_pos hi, j3v hi]
end Go.Proofs.YtbaccmlfnbgehaaGreatDoor
namespace Go.Proofs.YtbaccmlfnbgehaaGreatDoor
open Go.RowKit Pl
def KeepI (hi : Nat) (w w' : World) : Prop := ∀ b, b < hi -> ∀ c ty z, w.heap[b]? = some (.cells c ty z) -> ty ≠ 3 -> w'.heap[b]? = w.heap[b]?
theorem KeepI.row {hi b n : Nat} {t : TypeId} {f : Nat -> Value} {w w' : World} (hk : KeepI hi w w') (h : w.rowIs b t n f) (hb : b < hi) (ht : t ≠ 3) : w'.rowIs b t n f := by
 obtain ⟨c, h1, _, _⟩ := id h
 exact h.of_block (hk b hb _ _ _ h1 ht)
theorem KeepI.setCell {hi nb n : Nat} {f : Nat -> Value} {w : World} (h : w.rowIs nb 3 n f) (i : Nat) (v : Value) : KeepI hi w (w.setCell ⟨nb, i, none⟩ v) := fun b hb c ty z h1 ht => by
  refine Below.heap_setCell _ _ _ _ (fun e => ?_)
  obtain ⟨c', h2, _, _⟩ := h
  change b = nb at e
  subst e
  rw [h1] at h2
  simp only [Option.some.injEq, Obj.cells.injEq] at h2
  exact ht h2.2.1
theorem KeepI.grown {hi ab : Nat} {w w' : World} (hg : w.grownBy w' (some ab)) (hm : ∃ es clock, w.heap[ab]? = some (.map es clock)) : KeepI hi w w' := fun b hb c ty z h1 ht => by
  refine hg.block b (l0.1 h1).1 (fun e => ?_)
  obtain ⟨es, cl, h2⟩ := hm
  cases Option.some.inj e
  rw [h1] at h2
  cases h2
theorem WkR.kept {w w' : World} {tb hi rb lb WD : Nat} {R : Nat -> Option (Nat -> Bool)} (h : WkR w tb hi rb lb WD R) (hk : KeepI hi w w') : WkR w' tb hi rb lb WD R := by
 obtain ⟨bk, h1, h2⟩ := h.ex
 exact ⟨h.lt, h.ne, bk, hk.row h1 h.lt (by decide), fun l hl F hF => ⟨hk.row (h2 l hl F hF).1 (h2 l hl F hF).2.1 (by decide), (h2 l hl F hF).2⟩⟩
theorem WkT.kept {w w' : World} {hi tb n lb WD i : Nat} {x : Value} {T : Nat -> Nat -> Option (Nat -> Bool)} (h : WkT w hi tb n lb WD i x T) (hk : KeepI hi w w') : WkT w' hi tb n lb WD i x T := by
 obtain ⟨rbk, h1, h2⟩ := h.ex
 exact ⟨h.lt, rbk, hk.row h1 h.lt (by decide), fun p hp => (h2 p hp).kept hk⟩
theorem z2q (W : Nat) (R : Nat -> Option (Nat -> Bool)) (l : Nat) : (keyS W R l).length <= 1 + 8 * W := by
 unfold keyS
 cases R l with
 | none => simp
 | some F => simp only [List.length_cons, k0d]; omega
theorem v1v (W : Nat) (R : Nat -> Option (Nat -> Bool)) : ∀ r, ((l3 r).flatMap (keyS W R)).length <= r * (1 + 8 * W)
  | 0 => by simp
  | r + 1 => by
    have h1 := v1v W R r
    have h2 := z2q W R r
    rw [l7, l4, l1, Nat.succ_mul]
    simp only [List.flatMap_cons, List.flatMap_nil, List.append_nil]
    omega
theorem q1t {W r : Nat} (R : Nat -> Option (Nat -> Bool)) (hW : W <= 16) (hr : r <= 201) : ((l3 r).flatMap (keyS W R)).length <= 26000 := by
 have h1 := v1v W R r
 have h2 : r * (1 + 8 * W) <= 201 * 129 := Nat.mul_le_mul hr (by omega)
 omega
theorem q2q (W : Nat) (R : Nat -> Option (Nat -> Bool)) (r : Nat) : (l3 (r + 1)).flatMap (keyS W R) = (l3 r).flatMap (keyS W R) ++ keyS W R r := by
 rw [l7, l4]; simp
end Go.Proofs.YtbaccmlfnbgehaaGreatDoor
namespace Go.Proofs.YtbaccmlfnbgehaaGreatDoor
open Go.RowKit Pl
open Lib (hid)
structure BldAt (w : World) (b lo : Nat) (bs : List UInt8) : Prop where
  lt : b < lo
  ex : ∃ p v, (p = .pointer none ∨ p = .pointer (some ⟨b, 0, none⟩)) /\ w.heap[b]? = some (.cells #[p, v] 206 (0, 0)) /\ w.ownsRow lo 5 1 v bs.length (Lib.byteCells bs)
theorem k3a : (prog.info? 206).map (·.size) = some 2 := by kernel_rfl
theorem k3b : liesAt prog prog.depth 206 (2 / prog.cellsOf 206) 0 206 1 = true := by kernel_rfl
theorem u1k : Builder.Extra prog Tryz.strS_ren where
  sizeBuilder := by kernel_rfl
  liesBuilder := by kernel_rfl
  t5 := underlying5
  a5 := Tryz.isAgg5
  z5 := Tryz.sizeOf5
  v5 := Tryz.zeroValue5
  infoByte := by kernel_rfl
  cellsByte := by kernel_rfl
  sizeByte := by kernel_rfl
  neB5 := by decide
theorem p1f {w : World} {b : Nat} {p v : Value} (hp : p = .pointer none ∨ p = .pointer (some ⟨b, 0, none⟩)) (h : w.heap[b]? = some (.cells #[p, v] 206 (0, 0))) :
    Calls prog 173 #[.pointer (some ⟨b, 0, none⟩)] w fun e w' => e = .returned (.tuple #[]) /\ w'.heap[b]? = some (.cells #[.pointer (some ⟨b, 0, none⟩), v] 206 (0, 0)) /\ Chg w w' b := by
 have c0 : w.cell? ⟨b, 0, none⟩ = some p := by simp [World.cell?, h]
 have f0 : w.frozen? ⟨b, 0, none⟩ = false := by simp [World.frozen?, h]
 have bl := (l0.1 h).1
 obtain ⟨j, hj, hjs⟩ := Option.map_eq_some_iff.1 k3a
 rcases hp with rfl | rfl
 · have HS := hid (heap_setCell_same w b 0 _ _ (.pointer (some ⟨b, 0, none⟩)) h)
   have hsh : w.shape? b = some (206, 2) := by simp [World.shape?, h]
   clear h
   go_enter func173, ntmps173
   go_wp2
   rw [Lib.run_to_unsafe w ⟨b, 0, none⟩ underlying204 underlying216 hj (by rw [hjs]; decide) hsh (Nat.zero_lt_succ 1)]
   simp only [Result.andThen]
   rw [Oper.upon_value]
   go_wp2
   rw [run_callFunc_extern func193 (by kernel_rfl) (by kernel_rfl) (by kernel_rfl) (e := Extern.AbiNoEscape.same) (by kernel_rfl)]
   rw [Lib.run_noEscape]
   simp only [Result.andThen]
   rw [Oper.upon_value]
   go_wp2
   rw [Lib.run_from_unsafe w ⟨b, 0, none⟩ underlying216 underlying204 hj hsh k3b]
   simp only [Result.andThen]
   rw [Oper.upon_value]
   go_wp2
   go_end0
   exact ⟨rfl, HS.out, (Chg.refl w b).set 0 _⟩
 · have HH := hid h
   clear h
   go_enter func173, ntmps173
   go_wp2
   rw [Lib.run_neq_ptr_same w _ underlying204 hj]
   go_wp2
   go_end0
   exact ⟨rfl, HH.out, Chg.refl w b⟩
structure BldW (w w' : World) (b lo : Nat) : Prop where
  oth : ∀ g, g ≠ b -> g < lo -> g < w.heap.size -> w'.heap[g]? = w.heap[g]?
  size : w.heap.size <= w'.heap.size
  bel : Below b w w'
theorem BldW.refl (w : World) (b lo : Nat) : BldW w w b lo := ⟨fun _ _ _ _ => rfl, l5 _, Below.refl _ _⟩
theorem BldW.trans {w w' w'' : World} {b lo : Nat} (h : BldW w w' b lo) (h' : BldW w' w'' b lo) : BldW w w'' b lo :=
  ⟨fun g hg hl hs => (h'.oth g hg hl (l2 hs h.size)).trans (h.oth g hg hl hs), Nat.le_trans h.size h'.size, h.bel.trans h'.bel⟩
theorem k3j : IsRow prog 201 5 1 1 (.int .u8 0) := k0h underlying201 (by kernel_rfl) rfl (by decide)
theorem byteCells_snoc (bs : List UInt8) (c : UInt8) : Lib.byteCells (bs ++ [c]) = Lib.byteCells bs ++ [.int .u8 c.toNat] := by simp [Lib.byteCells]
theorem x0k {w : World} {b lo : Nat} {bs : List UInt8} (h : BldAt w b lo bs) (hlo : lo <= w.heap.size) (hl : bs.length + 1 <= 100000000) (c : UInt8) :
    Calls prog 157 #[.pointer (some ⟨b, 0, none⟩), .int .u8 c.toNat] w fun e w' => e = .returned .nilIface /\ BldAt w' b lo (bs ++ [c]) /\ BldW w w' b lo := by
 obtain ⟨p, v, hp, hb, hown⟩ := h.ex
 obtain ⟨va, vc, rfl⟩ : ∃ va vc, v = .slice va bs.length vc := by (
 rcases hown.2 with ⟨h1, h2⟩ | ⟨g, cap, cur, h1, _⟩
 · exact ⟨none, 0, by rw [h1, h2]⟩
 · exact ⟨some ⟨g, 0, none⟩, cap, h1⟩)
 have hblo := h.lt
 have HCC := hid (p1f hp hb)
 have HO := hid hown
 clear h hp hb hown
 go_enter func157, ntmps157
 go_wp2_with fail
 refine HCC.out.mono ?_
 rintro e w1 ⟨rfl, hb1, hch⟩
 have c1 : w1.cell? ⟨b, 1, none⟩ = some (.slice va bs.length vc) := by simp [World.cell?, hb1]
 have bl1 := (l0.1 hb1).1
 have hown1 : w1.ownsRow lo 5 1 (.slice va bs.length vc) bs.length (Lib.byteCells bs) := y0n HO.out (fun g hg => hch.oth g (by have := (HO.out.lt g hg).1; omega) (HO.out.lt g hg).2)
 have hs1 : w1.heap.size = w.heap.size := hch.size
 have HO1 := hid hown1; have HCH := hid hch; have HB1 := hid hb1
 have hlo1 : lo <= w1.heap.size := by omega
 have HS1 := hid hs1
 clear hown1 hch hb1 HCC HO hs1
 go_wp2_with (at_builtin; go_must (refine k0i rfl _ _ _ rfl k3j (Below.refl _ _) (show lo <= (w1.alloc (.cells #[.int .u8 c.toNat] 5)).heap.size by simp only [World.size_alloc]; omega) (by rfl) (HO1.out.alloc _) ⟨w1.heap.size, 0, none⟩ 1 1 [.int .u8 c.toNat] rfl rfl (k0c (by simp [go_sem])) (by simp [Value.oneCell']) (by decide) (by omega) (by unfold maxLen; omega) ?_); intro g cap w7 hown7 _ hg7; go_must (have hbo : w7.heap[b]? = some (.cells #[.pointer (some ⟨b, 0, none⟩), .slice va bs.length vc] 206 (0, 0)) := (hg7.block b (l2 bl1 (by rw [World.size_alloc]; exact Nat.le_succ _)) (fun e => Nat.lt_irrefl _ (l2 hblo (HO1.out.lt b e.symm).1))).trans ((Lib.alloc_old w1 _ b bl1).trans HB1.out)); go_must (have q1 : w7.cell? ⟨b, 1, none⟩ = some (.slice va bs.length vc) := (by simp [World.cell?, hbo]); have q2 : w7.frozen? ⟨b, 1, none⟩ = false := (by simp [World.frozen?, hbo]); have q3 : b < w7.heap.size := (l0.1 hbo).1; have q4 : w7.cell? ⟨b, 0, none⟩ = some (.pointer (some ⟨b, 0, none⟩)) := by simp [World.cell?, hbo]))
 have hs1 := HS1.out
 have hb8 := heap_setCell_same w7 b 1 _ _ (.slice (some ⟨g, 0, none⟩) (bs.length + 1) cap) hbo
 have hown8 : w7.ownsRow lo 5 1 (.slice (some ⟨g, 0, none⟩) (bs.length + 1) cap) (bs ++ [c]).length (Lib.byteCells (bs ++ [c])) := by rw [byteCells_snoc, l1]; exact hown7
 have HO8 := hid (ownsRow_setCell_below (a := ⟨b, 1, none⟩) hown8 hblo (.slice (some ⟨g, 0, none⟩) (bs.length + 1) cap))
 have HB8 := hid hb8
 have hbw : BldW w (w7.setCell ⟨b, 1, none⟩ (.slice (some ⟨g, 0, none⟩) (bs.length + 1) cap)) b lo := by (
 refine ⟨fun x hx hxl hxs => ?_, by rw [size_setCell]; have := hg7.size; simp only [World.size_alloc] at this; omega, ?_⟩
 · rw [Below.heap_setCell _ _ _ _ hx, hg7.block x (by simp only [World.size_alloc]; omega) (fun e => by have := (HO1.out.lt x e.symm).1; omega), Lib.alloc_old w1 _ x (by omega)]
   exact HCH.out.oth x hx hxs
 · exact ((((HCH.out.bel b (l5 _))).alloc (by omega) _).grown hg7 (by simp only [World.size_alloc]; omega) (fun k hk => by have := (HO1.out.lt k hk).1; omega)).setCell (l5 _) _)
 have HBW := hid hbw
 clear hs1 hown7 hg7 hown8 hbo hb8 hbw c1
 go_wp2_with fail
 go_ret
 exact ⟨rfl, ⟨hblo, _, _, .inr rfl, HB8.out, HO8.out⟩, HBW.out⟩
theorem BldAt.call {w w' : World} {b lo : Nat} {bs : List UInt8} (h : BldAt w b lo bs) (hB : Below w.heap.size w w') : BldAt w' b lo bs := by
 obtain ⟨p, v, hp, hb, hown⟩ := h.ex
 exact ⟨h.lt, p, v, hp, (hB.block b (l0.1 hb).1).trans hb, own_below hown hB⟩
theorem u1p {w : World} {b lo : Nat} {bs : List UInt8} (h : BldAt w b lo bs) :
    Calls prog 158 #[.pointer (some ⟨b, 0, none⟩)] w fun e w' => e = .returned (.string ⟨bs.toArray⟩) /\ Lib.IsBuilderF 206 5 b b (Lib.byteCells bs) w' /\ Below b w w' /\ Lib.OthersKept 5 (some b) w w' := by
 obtain ⟨p, v, hp, hb, hown⟩ := h.ex
 have hlt := h.lt
 have hI : Lib.IsBuilderF 206 5 b b (Lib.byteCells bs) w := by (
 have hat : Lib.BuilderAt 206 5 b b p (Lib.byteCells bs) w := ⟨l5 _, v, hb, by rw [Lib.byteCells_length]; exact j0r hown (by omega), fun e => by have := (hown.lt b e).1; omega⟩
 refine Lib.IsBuilderF.of ?_
 rcases hp with rfl | rfl
 · exact .inl hat
 · exact .inr hat)
 exact Any.Builder_String_any_k Tryz.strS u1k b b bs w hI (Nat.le_of_lt (l0.1 hb).1)
theorem x1o {w : World} {b : Nat} {bs : List UInt8} (h : Lib.IsBuilderF 206 5 b b (Lib.byteCells bs) w) (hb : b <= w.heap.size) :
    Calls prog 158 #[.pointer (some ⟨b, 0, none⟩)] w fun e w' => e = .returned (.string ⟨bs.toArray⟩) /\ Lib.IsBuilderF 206 5 b b (Lib.byteCells bs) w' /\ Below b w w' /\ Lib.OthersKept 5 (some b) w w' :=
  Any.Builder_String_any_k Tryz.strS u1k b b bs w h hb
theorem v2r (x k : Nat) (hk : k < 8) : (by8 x).take (k + 1) = (by8 x).take k ++ [UInt8.ofNat (x >>> (8 * k))] := take_snoc (by
  unfold by8
  rw [List.getElem?_map, List.getElem?_range hk]; rfl)
theorem p1o {w : World} {b lo rb W : Nat} {F : Nat -> Bool} {bs : List UInt8} (h : BldAt w b lo bs) (hlo : lo <= w.heap.size) (hr : BitRow w rb W F) (hrl : rb < lo) (hrb : rb ≠ b) (hW : W <= 100) (hl : bs.length <= 10000000) :
    Calls prog 156 #[.slice (some ⟨rb, 0, none⟩) W W, .pointer (some ⟨b, 0, none⟩)] w fun e w' => e = .returned (.tuple #[]) /\ BldAt w' b lo (bs ++ bytesW F W) /\ BldW w w' b lo := by
 have H := hid h; have HR := hid hr
 have hrw := hr.lt
 clear h hr
 go_enter func156, ntmps156
 go_wp2_with fail
 go_loopw [5, 6, 9] (fun _ _ v9 wr => ∃ j : Nat, v9 = .int .i64 j /\ j <= W /\ BldAt wr b lo (bs ++ bytesW F j) /\ BldW w wr b lo) (fun _ _ v9 _ => W - (intOf v9).toNat)
 case atStart => exact ⟨0, rfl, Nat.zero_le _, by simpa [bytesW] using H.out, BldW.refl _ _ _⟩
 case round => (
 obtain ⟨j, rfl, hj, hbl, hbw⟩ := hrel
 have HBL := hid hbl; have HBW := hid hbw
 have hws := hbw.size
 clear hbl hbw H
 by_cases hjW : j < W
 · (
 have hrr : BitRow wr rb W F := HR.out.of_block (HBW.out.oth rb hrb hrl hrw)
 have c0 := hrr.cell hjW
 have cl := hrr.lt
 have hxl := x1n F j
 obtain ⟨x, hx⟩ : ∃ x, x = wj F j := ⟨_, rfl⟩
 rw [<- hx] at c0 hxl
 have hlen := k0d F j
 have HX := hid hx; have HXL := hid hxl
 have hjI : (j : Int) < (W : Int) := by omega
 have HLEN : Hid ((bs ++ bytesW F j).length <= 10000800) := hid (by rw [l1, hlen]; omega)
 obtain ⟨b1, hb1⟩ : ∃ b1, b1 = bs ++ bytesW F j := ⟨_, rfl⟩
 rw [<- hb1] at HBL HLEN
 have HB1 := hid hb1
 clear hrr hx hlen hb1 hxl
 go_wp2_with fail
 go_loopw [6, 13] (fun _ v13 wx => ∃ k : Nat, v13 = .int .i64 k /\ k <= 8 /\ BldAt wx b lo (b1 ++ (by8 x).take k) /\ BldW w wx b lo) (fun _ v13 _ => 8 - (intOf v13).toNat)
 case atStart => exact ⟨0, rfl, by omega, by simpa using HBL.out, HBW.out⟩
 case round => (
 obtain ⟨k, rfl, hk, hbl, hbw⟩ := hrel
 have HBL2 := hid hbl; have HBW2 := hid hbw
 have hws2 := hbw.size
 clear hbl hbw HBL HBW
 by_cases hk8 : k < 8
 · (
 have hkI : (k : Int) < 8 := by omega
 have HWB := hid (x0k HBL2.out (by omega) (by have := HLEN.out; rw [l1, List.length_take, z1g]; omega) (UInt8.ofNat (x >>> (8 * k))))
 have hsh : (x : Int) / 2 ^ (8 * k) % 256 = (((UInt8.ofNat (x >>> (8 * k))).toNat : Nat) : Int) := by
   rw [UInt8.toNat_ofNat', Nat.shiftRight_eq_div_pow]
   simp
 have HTK : Hid (b1 ++ (by8 x).take (k + 1) = (b1 ++ (by8 x).take k) ++ [UInt8.ofNat (x >>> (8 * k))]) := hid (by rw [v2r x k hk8, l6])
 have HSH := hid hsh
 clear hsh
 go_wp2_with fail
 rw [HSH.out]
 refine HWB.out.mono ?_
 rintro e w5 ⟨rfl, hbl5, hbw5⟩
 have HB5 := hid hbl5; have HW5 := hid (HBW2.out.trans hbw5)
 clear hbl5 hbw5 HWB HBL2 HBW2
 go_wp2_with fail
 go_roundw
 case rel => exact ⟨k + 1, by go_num, by omega, by rw [HTK.out]; exact HB5.out, HW5.out⟩
 case measure => simp [intOf]; omega)
 · (
 obtain rfl : k = 8 := by omega
 have HB5 : Hid (BldAt wr b lo (bs ++ bytesW F (j + 1))) := hid (by (
 have h1 := HBL2.out
 rw [List.take_of_length_le (by rw [z1g]; omega), HB1.out, l6, HX.out, <- q0h] at h1
 exact h1))
 clear HBL2
 go_wp2_with fail
 go_roundw
 case rel => exact ⟨j + 1, by go_num, by omega, HB5.out, HBW2.out⟩
 case measure => simp [intOf]; omega)))
 · obtain rfl : j = W := by omega
   go_wp2_with fail
   go_end0
   exact ⟨rfl, HBL.out, HBW.out⟩)
end Go.Proofs.YtbaccmlfnbgehaaGreatDoor
