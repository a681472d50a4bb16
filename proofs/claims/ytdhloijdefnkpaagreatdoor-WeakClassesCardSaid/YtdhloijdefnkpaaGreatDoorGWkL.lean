/-
  Plain: chapter 13's first call: what the document fixes.
  errors.Is at a fault that wraps a fault that wraps an error.
  simul: rows of bits: put, drop, has.
  simul: rows of bits: meets, ids; math/bits.TrailingZeros64.
  weak's sets in memory: rows of words.
-/
import Derived.Test.YtdhloijdefnkpaaGreatDoorWkK
import Derived.Test.YtdhloijdefnkpaaGreatDoorGFault
import Derived.Test.YtdhloijdefnkpaaGreatDoorGBrL
import Derived.Test.YtdhloijdefnkpaaGreatDoorGPlB
import Derived.Laws.BitsAllLaws
import Derived.IntWalk
import Derived.BigRegion
import Derived.Deep.QuietTactic
import Derived.BigQuiet
import Derived.Outline
import Derived.Deep.Cut
import Derived.Shelf.Spec.TrailingZeros
import Derived.Test.YtdhloijdefnkpaaGreatDoorGTauJ
namespace Go.Proofs.YtdhloijdefnkpaaGreatDoor
namespace Pl
def al13 : Lts := ⟨4, 2, 0, [(0, 0, 1), (1, 1, 2), (3, 1, 2)]⟩
theorem al13_right : al13.Right := ⟨by unfold HeadBad al13; simp, by decide⟩
theorem al13_norm : al13.norm = al13 := by
  unfold Lts.norm
  have : nf ltE al13.es = al13.es := by decide
  rw [this]
theorem al13_stp {a b : Nat} {l : Int} : stp al13 a l b ↔ (a = 0 ∧ l = 0 ∧ b = 1) ∨ (a = 1 ∧ l = 1 ∧ b = 2) ∨ (a = 3 ∧ l = 1 ∧ b = 2) := by
  unfold stp al13
  simp only [List.mem_cons, Prod.mk.injEq, List.not_mem_nil, or_false]
  omega
theorem al13_tr {a b : Nat} : TR al13 a b ↔ a = b ∨ (a = 0 ∧ b = 1) := by
  constructor
  · intro h
    induction h with
    | refl => exact .inl rfl
    | tail _ h2 ih =>
      have := al13_stp.1 h2
      omega
  · rintro (rfl | ⟨rfl, rfl⟩)
    · exact .refl
    · exact TR.one (al13_stp.2 (.inl ⟨rfl, rfl, rfl⟩))
theorem al13_wst {a b : Nat} {l : Int} : wst al13 a l b ↔ (l = 0 ∧ (a = b ∨ (a = 0 ∧ b = 1))) ∨ (l = 1 ∧ b = 2 ∧ (a = 0 ∨ a = 1 ∨ a = 3)) := by
  by_cases hl : l = 0
  · subst hl
    rw [wst_zero, al13_tr]
    omega
  · rw [wst_ne hl]
    constructor
    · rintro ⟨m, t, h1, h2, h3⟩
      have h1 := al13_tr.1 h1; have h2 := al13_stp.1 h2; have h3 := al13_tr.1 h3
      omega
    · intro h
      have h5 : l = 1 ∧ b = 2 ∧ (a = 0 ∨ a = 1 ∨ a = 3) := by omega
      clear h
      obtain ⟨rfl, rfl, h6⟩ := h5
      rcases h6 with rfl | rfl | rfl
      · exact ⟨1, 2, al13_tr.2 (.inr ⟨rfl, rfl⟩), al13_stp.2 (.inr (.inl ⟨rfl, rfl, rfl⟩)), .refl⟩
      · exact ⟨1, 2, .refl, al13_stp.2 (.inr (.inl ⟨rfl, rfl, rfl⟩)), .refl⟩
      · exact ⟨3, 2, .refl, al13_stp.2 (.inr (.inr ⟨rfl, rfl, rfl⟩)), .refl⟩
def al13K (p l q : Nat) : Bool := (decide (l = 0) && (decide (p = q) || (decide (p = 0) && decide (q = 1)))) || (decide (l = 1) && decide (q = 2) && (decide (p = 0) || decide (p = 1) || decide (p = 3)))
theorem al13K_ok : KOk al13 4 2 al13K := by
  intro p l q _ _ _
  rw [al13_wst]
  unfold al13K
  simp only [Bool.or_eq_true, Bool.and_eq_true, decide_eq_true_eq]
  omega
theorem al13_sat {K : Nat → Nat → Nat → Bool} (h : KOk al13 4 2 K) : (satE 4 2 K).length = 8 := by
  rw [h.eq al13K_ok]
  decide
theorem al13_big {K : Nat → Nat → Nat → Bool} (hK : KOk al13 4 2 K) {C : Nat → Int} (h : Big (satS al13 4 2 K) 4 C) : C 1 = C 0 ∧ C 3 = C 0 ∧ C 2 ≠ C 0 := by
  have hs : ∀ {p q : Nat} {l : Int}, stp (satS al13 4 2 K) p l q ↔ p < 4 ∧ wst al13 p l q := stp_sat al13_right rfl rfl hK
  have hR : IsBis (satS al13 4 2 K) 4 (fun p q => (p = 2 ↔ q = 2)) := by
    intro p q hp hq hpq
    constructor
    · intro l t ht hst
      have h1 := al13_wst.1 (hs.1 hst).2
      by_cases hl : l = 0
      · refine ⟨q, hq, hs.2 ⟨hq, al13_wst.2 (.inl ⟨hl, .inl rfl⟩)⟩, ?_⟩
        omega
      · refine ⟨2, by omega, hs.2 ⟨hq, al13_wst.2 (.inr ⟨by omega, rfl, by omega⟩)⟩, ?_⟩
        omega
    · intro l t ht hst
      have h1 := al13_wst.1 (hs.1 hst).2
      by_cases hl : l = 0
      · refine ⟨p, hp, hs.2 ⟨hp, al13_wst.2 (.inl ⟨hl, .inl rfl⟩)⟩, ?_⟩
        omega
      · refine ⟨2, by omega, hs.2 ⟨hp, al13_wst.2 (.inr ⟨by omega, rfl, by omega⟩)⟩, ?_⟩
        omega
  refine ⟨h.all _ hR 1 0 (by omega) (by omega) (by omega), h.all _ hR 3 0 (by omega) (by omega) (by omega), fun e => ?_⟩
  obtain ⟨u, _, h1, _⟩ := (h.bis 2 0 (by omega) (by omega) e).2 1 2 (by omega) (hs.2 ⟨by omega, al13_wst.2 (.inr ⟨rfl, rfl, .inl rfl⟩)⟩)
  have := al13_wst.1 (hs.1 h1).2
  omega
theorem al13_res {K : Nat → Nat → Nat → Bool} (hK : KOk al13 4 2 K) {C : Nat → Int} (h : Big (satS al13 4 2 K) 4 C) (hc : canon (fl 4 C) = fl 4 C) : C 3 = 0 ∧ C 2 = 1 := by
  obtain ⟨h1, h3, h2⟩ := al13_big hK h
  have hfl : fl 4 C = [C 0, C 0, C 2] ++ [C 0] := by unfold fl; simp [List.range, List.range.loop, h1, h3]
  have hd : dist [C 0, C 0, C 2] = [C 0, C 2] := by
    unfold dist addN
    simp [h2]
  have k0 : (dist (fl 4 C)).idxOf (C 0) = 0 := by
    rw [hfl, idx_append _ _ (by simp), hd]; simp
  have k2 : (dist (fl 4 C)).idxOf (C 2) = 1 := by
    rw [hfl, idx_append _ _ (by simp), hd]
    have hb2 : (C 0 == C 2) = false := by simp [Ne.symm h2]
    simp [List.idxOf_cons, hb2]
  have g3 : (fl 4 C)[3]? = some (C 3) := fl_get (n := 4) (i := 3) C (by omega)
  have g2 : (fl 4 C)[2]? = some (C 2) := fl_get (n := 4) (i := 2) C (by omega)
  have e3 : (canon (fl 4 C))[3]? = some (C 3) := by rw [hc]; exact g3
  have e2 : (canon (fl 4 C))[2]? = some (C 2) := by rw [hc]; exact g2
  rw [canon_get, g3] at e3
  rw [canon_get, g2] at e2
  simp only [Option.map_some, Option.some.injEq] at e3 e2
  rw [h3, k0] at e3
  rw [k2] at e2
  exact ⟨by rw [h3, ← e3]; rfl, by rw [← e2]; rfl⟩
end Pl
end Go.Proofs.YtdhloijdefnkpaaGreatDoor

namespace Go.Proofs.YtdhloijdefnkpaaGreatDoor
open Go.RowKit Go.Extern.Stop Go.Stop Go.Extern Pl

set_option maxRecDepth 100000 in
/-- errors.Is(a fault that wraps a fault that wraps x itself, x). -/
theorem is_faultQ_same (pb pc : Nat) (b : Addr) (w : World) (h1 : w.cell? ⟨pb, 3, none⟩ = some (.iface 73 (.pointer (some ⟨pc, 0, none⟩)))) (h2 : w.cell? ⟨pc, 3, none⟩ = some (.iface 285 (.pointer (some b)))) :
    Calls Tryz.prog 22 #[.iface 73 (.pointer (some ⟨pb, 0, none⟩)), .iface 285 (.pointer (some b))] w fun e w' => e = .returned (.bool true) ∧ w = w' := by
  obtain ⟨i, hi, hcmp⟩ := Option.map_eq_some_iff.1 isComp
  obtain ⟨j, hj, hjs⟩ := Option.map_eq_some_iff.1 isSize
  have tT := isTypeOf
  have cT := isComparable
  have mR := isMethodComparable
  have nE := noIsE
  have uE := noUnwrapE
  have vE := noUnwrapsE
  have nW := noIsW
  have uW := hasUnwrapW
  have mU := methodUnwrap
  have heq := run_eql_iface_ptr_same (P := Tryz.prog) w b Tryz.underlying28 Tryz.underlying285 hi hcmp hj
  have hty := run_eql_iface_types (P := Tryz.prog) 73 285 (.pointer (some ⟨pb, 0, none⟩)) (.pointer (some b)) Tryz.underlying28 (by decide) w
  have hty2 := run_eql_iface_types (P := Tryz.prog) 73 285 (.pointer (some ⟨pc, 0, none⟩)) (.pointer (some b)) Tryz.underlying28 (by decide) w
  go_enter Tryz.func22, Tryz.ntmps22
  go_wp2
  refine wp_loop_rounds 3 ?_
  rw [rounds_succ]
  go_wp2
  rw [rounds_succ]
  go_wp2
  rw [rounds_succ]
  go_wp2
  go_ret
  exact ⟨rfl, rfl⟩

set_option maxRecDepth 100000 in
/-- errors.Is(a fault that wraps a fault that wraps another error, x). -/
theorem is_faultQ_other (pb pc : Nat) (b a : Addr) (ca cb : Array Value) (ta tb : TypeId) (w : World) (h1 : w.cell? ⟨pb, 3, none⟩ = some (.iface 73 (.pointer (some ⟨pc, 0, none⟩)))) (h2 : w.cell? ⟨pc, 3, none⟩ = some (.iface 285 (.pointer (some a)))) (hne : a ≠ b) (ha : w.heap[a.block]? = some (.cells ca ta (0, 0))) (hb : w.heap[b.block]? = some (.cells cb tb (0, 0))) :
    Calls Tryz.prog 22 #[.iface 73 (.pointer (some ⟨pb, 0, none⟩)), .iface 285 (.pointer (some b))] w fun e w' => e = .returned (.bool false) ∧ w = w' := by
  obtain ⟨i, hi, hcmp⟩ := Option.map_eq_some_iff.1 isComp
  obtain ⟨j, hj, hjs⟩ := Option.map_eq_some_iff.1 isSize
  have tT := isTypeOf
  have cT := isComparable
  have mR := isMethodComparable
  have nE := noIsE
  have uE := noUnwrapE
  have vE := noUnwrapsE
  have nW := noIsW
  have uW := hasUnwrapW
  have mU := methodUnwrap
  have heq := run_eql_iface_ptr_other (P := Tryz.prog) w Tryz.underlying28 Tryz.underlying285 hi hcmp hj (by rw [hjs]; decide) hne ha hb
  have hty := run_eql_iface_types (P := Tryz.prog) 73 285 (.pointer (some ⟨pb, 0, none⟩)) (.pointer (some b)) Tryz.underlying28 (by decide) w
  have hty2 := run_eql_iface_types (P := Tryz.prog) 73 285 (.pointer (some ⟨pc, 0, none⟩)) (.pointer (some b)) Tryz.underlying28 (by decide) w
  go_enter Tryz.func22, Tryz.ntmps22
  go_wp2
  refine wp_loop_rounds 3 ?_
  rw [rounds_succ]
  go_wp2
  rw [rounds_succ]
  go_wp2
  rw [rounds_succ]
  go_wp2
  go_ret
  exact ⟨rfl, rfl⟩

/-- Another package-level error: its pointer, its own block. -/
def SentQ (g : Nat) (p : Addr) (w : World) : Prop := ∃ (q : Addr) (c : Array Value) (t : TypeId), GErr g q w ∧ q ≠ p ∧ w.heap[q.block]? = some (.cells c t (0, 0))

theorem SentQ.below {g : Nat} {p : Addr} {w w' : World} (h : SentQ g p w) (hB : Below w.heap.size w w') : SentQ g p w' := by
  obtain ⟨q, c, t, h1, h2, h3⟩ := h
  exact ⟨q, c, t, h1.below hB, h2, by rw [hB.block _ (Array.getElem?_eq_some_iff.1 h3).1]; exact h3⟩

set_option maxRecDepth 100000 in
theorem isNilE_any (v : Value) (w : World) : Calls Tryz.prog 22 #[.nilIface, .iface 285 v] w fun e w' => e = .returned (.bool false) ∧ w = w' := by
  have hne := run_eql_iface_nil_left (P := Tryz.prog) (w := w) 285 v Tryz.underlying28
  go_enter Tryz.func22, Tryz.ntmps22
  go_wp2
  go_ret
  exact ⟨rfl, rfl⟩

end Go.Proofs.YtdhloijdefnkpaaGreatDoor

namespace Go.Proofs.YtdhloijdefnkpaaGreatDoor
open Go.RowKit Pl

/-- A set of numbers in memory: five words. -/
def RowAt (w : World) (b off : Nat) (F : Nat → Bool) : Prop := ∀ j, j < 5 → w.cell? ⟨b, off + j, none⟩ = some (.int .u64 (wj F j : Nat))

theorem pow_lt64 {k : Nat} (h : k < 64) : 2 ^ k < 18446744073709551616 := Nat.lt_of_lt_of_le (Nat.pow_lt_pow_right (by decide) h) (by decide)
theorem wrap_pow {k : Nat} (h : k < 64) : IntKind.u64.wrap ((2 : Int) ^ k) = ((2 ^ k : Nat) : Int) := by
  have h1 := pow_lt64 h
  have h2 : ((2 : Int) ^ k) = ((2 ^ k : Nat) : Int) := by simp
  rw [h2, IntKind.wrap_u64]
  obtain ⟨y, hy⟩ : ∃ y, y = 2 ^ k := ⟨_, rfl⟩
  rw [← hy] at h1 ⊢
  omega
end Go.Proofs.YtdhloijdefnkpaaGreatDoor

namespace Go.Proofs.YtdhloijdefnkpaaGreatDoor
open Go.RowKit Pl

theorem RowAt.below {w w' : World} {b off : Nat} {F : Nat → Bool} (h : RowAt w b off F) (hB : Below w.heap.size w w') : RowAt w' b off F := fun j hj => by
  have hc := h j hj
  rw [hB.cell (p := ⟨b, off + j, none⟩) (World.block_lt_of_cell? _ _ hc)]; exact hc
theorem RowAt.lt {w : World} {b off : Nat} {F : Nat → Bool} (h : RowAt w b off F) : b < w.heap.size := World.block_lt_of_cell? _ _ (h 0 (by decide))
theorem RowAt.of_block {w w' : World} {b off : Nat} {F : Nat → Bool} (h : RowAt w b off F) (hb : w'.heap[b]? = w.heap[b]?) : RowAt w' b off F := fun j hj =>
  (World.cell?_of_block (a := ⟨b, off + j, none⟩) hb).trans (h j hj)

def Tab (w : World) : Prop := Go.Proofs.TabAt 13 Lib.deBruijn64tab w
theorem Tab.below {w w' : World} (h : Tab w) (hB : Below w.heap.size w w') : Tab w' := fun j hj => by
  have hc := h j hj
  rw [hB.cell (p := ⟨13, j, none⟩) (World.block_lt_of_cell? _ _ hc)]; exact hc

set_option maxRecDepth 100000 in
set_option maxHeartbeats 1000000 in
theorem tz_any {w : World} (hT : Tab w) {x : Nat} (h0 : x ≠ 0) (hx : x < 18446744073709551616) :
    Calls Tryz.prog 57 #[.int .u64 x] w fun e w' => e = .returned (.int .i64 (Lib.ctz 64 x)) ∧ w = w' := by
  obtain ⟨hlow, hk⟩ := Lib.lowest_bit 64 x h0 hx
  obtain ⟨hi, htab⟩ := Lib.deBruijn64_at _ hk
  have hcell := hT _ hi
  rw [htab] at hcell
  have key := Go.Proofs.tz64_key x _ hx h0 hlow
  have hx0 : ((x : Int) == 0) = false := by simp; omega
  obtain ⟨k, hkk⟩ : ∃ k, k = Lib.ctz 64 x := ⟨_, rfl⟩
  rw [← hkk] at hcell hk key hi ⊢
  obtain ⟨idx, hidx⟩ : ∃ idx, idx = 2 ^ k * 285870213051353865 % 18446744073709551616 / 288230376151711744 := ⟨_, rfl⟩
  rw [← hidx] at hcell key hi
  have HKEY := Lib.hid key
  clear key hidx hlow htab hx h0 hkk hT
  go_enter Tryz.func57, Tryz.ntmps57
  go_wp2_with (simp only [HKEY.out])
  go_ret
  exact ⟨rfl, rfl⟩

def MeetsPost (w : World) (F G : Nat → Bool) (e : Ending) (w' : World) : Prop := ∃ m : Bool, e = .returned (.bool m) ∧ (m = true ↔ ∃ i, i < 320 ∧ F i = true ∧ G i = true) ∧ ∃ u, w' = w.drewN u
def intsOf (L : List Nat) : List Int := L.map Int.ofNat
theorem intsOf_len (L : List Nat) : (intsOf L).length = L.length := by simp [intsOf]
theorem own_drewS {w : World} {base : Nat} {e : TypeId} {k n m : Nat} {v : Value} {xs : List Value} (h : w.ownsRow base e k v n xs) : (w.drewN m).ownsRow base e k v n xs := h
def IdsPost (w : World) (F : Nat → Bool) (e : Ending) (w' : World) : Prop := ∃ v, e = .returned v ∧ w'.ownsRow w.heap.size 3 1 v (intsOf (idsN F 320)).length ((intsOf (idsN F 320)).flatMap encI) ∧ Below w.heap.size w w'

end Go.Proofs.YtdhloijdefnkpaaGreatDoor

namespace Go.Proofs.YtdhloijdefnkpaaGreatDoor
open Go.RowKit Pl
namespace Pl
def orF (F G : Nat → Bool) (x : Nat) : Bool := F x || G x
theorem wj_or (F G : Nat → Bool) (j : Nat) : wj F j ||| wj G j = wj (orF F G) j := by
  refine Nat.eq_of_testBit_eq fun k => ?_
  rw [Nat.testBit_or, wj_bit, wj_bit, wj_bit]
  unfold orF
  cases decide (k < 64) <;> simp
theorem orF_none (F : Nat → Bool) : orF F (fun _ => false) = F := by funext x; simp [orF]
/-- Words for so many things. -/
def wds (n : Nat) : Nat := (n + 63) / 64
theorem wds_le (n : Nat) : n ≤ 64 * wds n := by unfold wds; omega
theorem wds_lt {n i : Nat} (h : i < n) : i / 64 < wds n := by unfold wds; omega
theorem wds_small {n : Nat} (h : n ≤ 1000) : wds n ≤ 16 := by unfold wds; omega
/-- A set of things below n. -/
theorem idsN_wds {F : Nat → Bool} {n : Nat} (h : ∀ x, F x = true → x < n) : idsN F (64 * wds n) = idsN F n := by
  have h1 := wds_le n
  obtain ⟨d, hd⟩ : ∃ d, 64 * wds n = n + d := ⟨64 * wds n - n, by omega⟩
  rw [hd]
  exact idsN_gap d (fun k _ => by
    cases e : F (n + k) with
    | false => rfl
    | true => exact absurd (h _ e) (by omega))
end Pl

/-- A set as a row of words of its own. -/
def BitRow (w : World) (b W : Nat) (F : Nat → Bool) : Prop := w.rowIs b 101 W (fun j => .int .u64 (wj F j : Nat))
section
variable {w w' : World} {b W : Nat} {F G : Nat → Bool}
theorem BitRow.lt (h : BitRow w b W F) : b < w.heap.size := World.rowIs.lt h
theorem BitRow.cell (h : BitRow w b W F) {j : Nat} (hj : j < W) : w.cell? ⟨b, j, none⟩ = some (.int .u64 (wj F j : Nat)) := World.rowIs.cell h hj
theorem BitRow.frozen (h : BitRow w b W F) (j : Nat) : w.frozen? ⟨b, j, none⟩ = false := World.rowIs.frozen h j
theorem BitRow.of_block (h : BitRow w b W F) (e : w'.heap[b]? = w.heap[b]?) : BitRow w' b W F := World.rowIs.of_block h e
theorem BitRow.below (h : BitRow w b W F) (hB : Below w.heap.size w w') : BitRow w' b W F := h.of_block (hB.block b h.lt)
theorem BitRow.congr (h : BitRow w b W F) (e : ∀ x, x < 64 * W → F x = G x) : BitRow w b W G :=
  World.rowIs.congr h (fun j hj => by rw [wj_ext (fun k hk => e (64 * j + k) (by omega))])
theorem BitRow.put (h : BitRow w b W F) (i : Nat) : BitRow (w.setCell ⟨b, i / 64, none⟩ (.int .u64 (wj (putF F i) (i / 64) : Nat))) b W (putF F i) :=
  (World.rowIs.set h (i / 64) _).congr (fun j _ => by
    by_cases e : j = i / 64
    · subst e; rw [if_pos rfl]
    · rw [if_neg e, wj_put_ne F e])
theorem BitRow.made (w : World) (W : Nat) : BitRow (w.alloc (.cells (madeCells #[.int .u64 0] W) 101)) w.heap.size W (fun _ => false) :=
  (World.rowIs_made w (.int .u64 0) W 101).congr (fun j _ => by rw [wj_none]; rfl)
end

/-- Only the row at b has turned. -/
structure Chg (w w' : World) (b : Nat) : Prop where
  oth : ∀ g, g ≠ b → g < w.heap.size → w'.heap[g]? = w.heap[g]?
  size : w'.heap.size = w.heap.size
  bel : ∀ B, B ≤ b → Below B w w'
section
variable {w w' w'' : World} {b : Nat}
theorem Chg.refl (w : World) (b : Nat) : Chg w w b := ⟨fun _ _ _ => rfl, rfl, fun _ _ => Below.refl _ _⟩
theorem Chg.trans (h : Chg w w' b) (h' : Chg w' w'' b) : Chg w w'' b :=
  ⟨fun g hg hl => (h'.oth g hg (by rw [h.size]; exact hl)).trans (h.oth g hg hl), h'.size.trans h.size, fun B hB => (h.bel B hB).trans (h'.bel B hB)⟩
theorem Chg.set (h : Chg w w' b) (j : Nat) (v : Value) : Chg w (w'.setCell ⟨b, j, none⟩ v) b :=
  ⟨fun g hg hl => (Below.heap_setCell _ _ _ _ hg).trans (h.oth g hg hl), by rw [size_setCell]; exact h.size, fun B hB => (h.bel B hB).setCell hB _⟩
theorem Chg.drewN (h : Chg w w' b) (m : Nat) : Chg w (w'.drewN m) b := ⟨h.oth, h.size, fun B hB => bdrew (h.bel B hB)⟩
theorem Chg.drew (h : Chg w w' b) : Chg w w'.drew b := ⟨h.oth, h.size, fun B hB => (h.bel B hB).drew⟩
end
end Go.Proofs.YtdhloijdefnkpaaGreatDoor
