/-
  weak.Classes: of a right system, and of none.
  What Saturate wants: the edges' list as it grows, sets read as lists, the closure.
-/
import Derived.Test.YtdhloijdefnkpaaGreatDoorWkN
import Derived.Test.YtdhloijdefnkpaaGreatDoorGWkC
import Derived.Test.YtdhloijdefnkpaaGreatDoorGTauH
import Derived.Test.YtdhloijdefnkpaaGreatDoorGGraphC
import Derived.Test.YtdhloijdefnkpaaGreatDoorTauI
namespace Go.Proofs.YtdhloijdefnkpaaGreatDoor
open Go.RowKit Pl

theorem canon_zeroW (n : Nat) : canon (fl n (fun _ => 0)) = fl n (fun _ => 0) := by
  by_cases h : n = 0
  · subst h; rfl
  · exact canon_zeroB n

/-- What Classes tells. -/
structure WkRes (s : Lts) (n lb : Nat) (C : Nat → Int) : Prop where
  big : ∀ K, KOk s n lb K → Big (satS s n lb K) n C
  can : canon (fl n C) = fl n C
  rng : ∀ p, p < n → 0 ≤ C p ∧ C p < (n : Int)
theorem can_rng {n : Nat} {C : Nat → Int} (h : canon (fl n C) = fl n C) {p : Nat} (hp : p < n) : 0 ≤ C p ∧ C p < (n : Int) := by
  have h1 := clf_rng (f := C) hp
  have h2 : clf n C p = C p := fl_inj (by rw [← canon_fl, h]) hp
  have h3 := dist_le n C
  rw [h2] at h1
  omega

set_option maxRecDepth 100000 in
set_option maxHeartbeats 8000000 in
theorem weakClasses_any {p : Addr} {s : Lts} {n lb : Nat} (hr : s.Right) (hn : s.st = (n : Int)) (hlb : s.lb = (lb : Int)) (h300 : n ≤ 300) {a : Option Addr} {b off c : Nat} {w : World} (hG : WkErr p w) (hT : Tab w) (hS : SlAt encE 3 w a b off s.es) :
    Calls Tryz.prog 13 #[.agg #[.int .i64 s.st, .int .i64 s.lb, .int .i64 s.s0, .slice a s.es.length c]] w fun e w' => ∃ (cb : Nat) (C : Nat → Int), e = .returned (.tuple #[.slice (some ⟨cb, 0, none⟩) n n, .nilIface]) ∧ SlAt encI 1 w' (some ⟨cb, 0, none⟩) cb 0 (fl n C) ∧ WkRes s n lb C ∧ w.heap.size ≤ cb ∧ Below w.heap.size w w' := by
  have hmk := run_make_row' (P := Tryz.prog) 33 3 (.int .i64 0) 8 Tryz.underlying33 (by kernel_rfl) rfl .i64 .i64 n (by omega) (by omega)
  have hB0 := (Below.refl w.heap.size w).alloc (Nat.le_refl _) (Obj.cells #[.int .i64 s.st, .int .i64 s.lb, .int .i64 s.s0, .slice a s.es.length c] 24)
  have hbx := heap_alloc_new w (Obj.cells #[.int .i64 s.st, .int .i64 s.lb, .int .i64 s.s0, .slice a s.es.length c] 24)
  have HMD := Lib.hid (madeW_any (c := c) hr hn h300 (hG.below hB0) (hS.below hB0 (Nat.le_refl _)))
  obtain ⟨el, hel⟩ : ∃ el, el = s.es.length := ⟨_, rfl⟩
  rw [hn, ← hel] at HMD hB0 hbx ⊢
  have HB0 := Lib.hid hB0; have HBX := Lib.hid hbx; have HR := Lib.hid hr; have HN := Lib.hid hn; have HLB := Lib.hid hlb; have HT := Lib.hid hT
  clear hG hS hB0 hbx hr hn hlb hT hel
  go_enter Tryz.func13, Tryz.ntmps13
  go_wp2_with fail
  refine HMD.out.mono ?_
  rintro e w1 ⟨xb, gb, sb, F, rfl, hX, hxb, hB1⟩
  have hb1 := HB0.out.trans (hB1.mono (by simp))
  have hx := (hB1.block w.heap.size (by simp)).trans HBX.out
  have xl := (Array.getElem?_eq_some_iff.1 hx).1
  have x0 : w1.cell? ⟨w.heap.size, 0, none⟩ = some (.int .i64 n) := by simp [World.cell?, hx]
  have hrw := World.rowIs_made w1 (.int .i64 0) n 3
  have hq1 := (Below.refl w1.heap.size w1).alloc (Nat.le_refl _) (.cells (madeCells #[.int .i64 0] n) 3)
  have HX := Lib.hid hX; have HB1 := Lib.hid hb1; have HRW := Lib.hid hrw; have HQ1 := Lib.hid hq1
  clear hX hxb hB1 hb1 hx HMD HB0 HBX hrw hq1
  go_wp2_with fail
  clear x0 xl
  go_loopg [6, 7] (n + 1) (fun g v6 _ wr => ∃ (cb : Nat) (C : Nat → Int), n + 1 ≤ g + (dist (fl n C)).length ∧ v6 = .slice (some ⟨cb, 0, none⟩) n n ∧ wr.rowIs cb 3 n (fun i => .int .i64 (C i)) ∧ (∀ K, KOk s n lb K → HoldsS (satS s n lb K) n C) ∧ canon (fl n C) = fl n C ∧ w1.heap.size ≤ cb ∧ Below w1.heap.size w1 wr)
  case atStart => exact ⟨w1.heap.size, fun _ => 0, by omega, rfl, HRW.out, fun K _ => .zero, canon_zeroW n, Nat.le_refl _, HQ1.out⟩
  case round =>
    obtain ⟨cb, C, hgk, rfl, hrow, hro, hca, hcl, hB⟩ := hrel
    have HROW := Lib.hid hrow; have HRO := Lib.hid hro; have HCA := Lib.hid hca; have HB := Lib.hid hB
    have hws := hB.size
    have hcbl := hrow.lt
    have HNX := Lib.hid (next_any (cc := n) (HX.out.call hB) HLB.out (HT.out.below (HB1.out.trans (hB.mono HB1.out.size))) hca (rowIs_sl hrow))
    clear hrow hro hca hB HRW HQ1
    go_wp2_with fail
    refine HNX.out.mono ?_
    rintro e w2 ⟨nb, D, rfl, hnx, hns, hcd, hnb, hB2⟩
    have hsl := rowIs_sl hnx
    have hcs := (rowIs_sl HROW.out).below hB2 (Nat.le_refl _)
    have heq := slicesEqual_any (c1 := n) (c2 := n) hsl hcs (by rw [fl_len]; omega) (by rw [fl_len]; omega)
    rw [fl_len, fl_len] at heq
    have HEQ := Lib.hid heq; have HNX2 := Lib.hid hnx; have HCS := Lib.hid hcs; have HNS := Lib.hid hns; have HCD := Lib.hid hcd
    have HBZ := Lib.hid (HB.out.trans (hB2.mono hws))
    have hnbl : w1.heap.size ≤ nb := by omega
    clear hsl hcs heq hnx hns hcd hnb hB2 HNX
    by_cases he : fl n D = fl n C
    · have hde : decide (fl n D = fl n C) = true := by simp [he]
      rw [hde] at HEQ
      have HEE := Lib.hid he
      clear hde he
      go_wp2_with fail
      refine HEQ.out.mono ?_
      rintro e w7 ⟨rfl, q7, rfl⟩
      go_wp2_with fail
      go_ret2
      exact ⟨cb, C, rfl, HCS.out.below (bdrew (Below.refl _ _)) (Nat.le_refl _), ⟨fun K hK => (HRO.out K hK).done (HNS.out.sat HR.out HN.out HLB.out hK) (fun p hp => fl_inj HEE.out hp), HCA.out, fun p hp => can_rng HCA.out hp⟩, by have := HB1.out.size; omega, bdrew (HB1.out.trans (HBZ.out.mono HB1.out.size))⟩
    · have hde : decide (fl n D = fl n C) = false := by simp [he]
      rw [hde] at HEQ
      have hmore := next_moreS HNS.out HCA.out HCD.out he
      have hle := dist_le n D
      clear hde he
      go_wp2_with fail
      refine HEQ.out.mono ?_
      rintro e w7 ⟨rfl, q7, rfl⟩
      go_wp2_with fail
      go_roundg (gk - 1)
      case rel => exact ⟨nb, D, by omega, rfl, HNX2.out, fun K hK => (HRO.out K hK).next (HNS.out.sat HR.out HN.out HLB.out hK), HCD.out, hnbl, bdrew HBZ.out⟩
      case measure => omega

set_option maxRecDepth 100000 in
theorem weakClassesNo_any {p : Addr} {s : Lts} (h : ¬ s.Right) {a : Option Addr} {b off c : Nat} {w : World} (hG : WkErr p w) (hT : ErrType w) (hS : SlAt encE 3 w a b off s.es) :
    Calls Tryz.prog 13 #[.agg #[.int .i64 s.st, .int .i64 s.lb, .int .i64 s.s0, .slice a s.es.length c]] w fun e w' => ∃ v, e = .returned (.tuple #[.slice none 0 0, v]) ∧ FaultW w' p v ∧ Below w.heap.size w w' := by
  have hB0 := (Below.refl w.heap.size w).alloc (Nat.le_refl _) (Obj.cells #[.int .i64 s.st, .int .i64 s.lb, .int .i64 s.s0, .slice a s.es.length c] 24)
  have HMD := Lib.hid (madeWNo_any (c := c) h (hG.below hB0) (hT.below hB0) (hS.below hB0 (Nat.le_refl _)))
  have HB0 := Lib.hid hB0
  clear hG hS hB0 h hT
  go_enter Tryz.func13, Tryz.ntmps13
  go_wp2_with fail
  refine HMD.out.mono ?_
  rintro e w1 ⟨v, rfl, hF, hB1⟩
  obtain ⟨vi, hf1, hf2⟩ := id hF
  obtain ⟨pb, rfl, hpb1⟩ := hf1.ex
  have HF := Lib.hid hF; have HB1 := Lib.hid (HB0.out.trans (hB1.mono (by simp)))
  clear hF hB1 hf1 hf2 hpb1 HMD HB0
  go_wp2_with fail
  go_ret2
  exact ⟨_, rfl, HF.out, HB1.out⟩
end Go.Proofs.YtdhloijdefnkpaaGreatDoor

namespace Go.Proofs.YtdhloijdefnkpaaGreatDoor
open Go.RowKit Pl
namespace Pl

def labE (n : Nat) (K : Nat → Nat → Nat → Bool) (p l : Nat) : List E := (idsN (K p l) n).map fun q : Nat => ((p : Int), (l : Int), (q : Int))
def rowE' (n lb : Nat) (K : Nat → Nat → Nat → Bool) (p : Nat) : List E := (List.range lb).flatMap (labE n K p)
def preE (n lb : Nat) (K : Nat → Nat → Nat → Bool) (i : Nat) : List E := (List.range i).flatMap (rowE' n lb K)
theorem preE_all (n lb : Nat) (K : Nat → Nat → Nat → Bool) : preE n lb K n = satE n lb K := rfl
theorem preE_succ (n lb : Nat) (K : Nat → Nat → Nat → Bool) (i : Nat) : preE n lb K (i + 1) = preE n lb K i ++ rowE' n lb K i := by
  unfold preE; rw [List.range_succ, List.flatMap_append]; simp
theorem flat_succ {α : Type} (f : Nat → List α) (r : Nat) : (List.range (r + 1)).flatMap f = (List.range r).flatMap f ++ f r := by
  rw [List.range_succ, List.flatMap_append]; simp
theorem flat_le {α : Type} (f : Nat → List α) {r : Nat} : ∀ {m : Nat}, r ≤ m → ((List.range r).flatMap f).length ≤ ((List.range m).flatMap f).length
  | 0, h => by obtain rfl : r = 0 := by omega
               exact Nat.le_refl _
  | m + 1, h => by
    by_cases e : r = m + 1
    · subst e; exact Nat.le_refl _
    · have h1 := flat_le f (r := r) (m := m) (by omega)
      rw [flat_succ f m, List.length_append]; omega
theorem pre_le {n lb : Nat} {K : Nat → Nat → Nat → Bool} {i r q : Nat} (hi : i < n) (hr : r < lb) : ((preE n lb K i ++ (List.range r).flatMap (labE n K i)) ++ (labE n K i r).take q).length ≤ (satE n lb K).length := by
  have h1 := flat_le (rowE' n lb K) (r := i + 1) (m := n) hi
  have h2 := flat_le (labE n K i) (r := r + 1) (m := lb) hr
  have h3 : (preE n lb K (i + 1)).length ≤ (satE n lb K).length := h1
  rw [preE_succ, List.length_append] at h3
  rw [flat_succ, List.length_append] at h2
  have h4 : (rowE' n lb K i).length = ((List.range lb).flatMap (labE n K i)).length := rfl
  rw [List.length_append, List.length_append, List.length_take]
  omega
theorem kOk_of_ends {s : Lts} {n lb : Nat} (hr : s.Right) (hn : s.st = (n : Int)) {F : Nat → Nat → Bool} (hF : ∀ p, p < n → ∀ x, F p x = true ↔ TR s p x) {R : Nat → Nat → Option (Nat → Bool)} (hR : ∀ p l, p < n → l < lb → EndsOk s F p (l : Int) (R p l)) : KOk s n lb (fun p l q => getO (R p l) q) := by
  intro p l q hp hl hq
  have h := hR p l hp hl
  have key : ∀ m t, TR s p m → one s m (l : Int) t → t < n := fun m t h1 h2 => by
    rcases h2 with ⟨_, rfl⟩ | ⟨_, h2⟩
    · exact h1.ltW hr hn hp
    · exact (stp_lt hr hn h2).2.1
  show getO (R p l) q = true ↔ _
  cases e : R p l with
  | none =>
    rw [e] at h
    constructor
    · intro h1; simp [getO] at h1
    · rintro ⟨m, t, h1, h2, h3⟩; exact absurd ⟨m, t, h1, h2⟩ h
  | some G =>
    rw [e] at h
    show G q = true ↔ _
    rw [h.2 q]
    constructor
    · rintro ⟨m, t, h1, h2, h3⟩; exact ⟨m, t, h1, h2, (hF t (key m t h1 h2) q).1 h3⟩
    · rintro ⟨m, t, h1, h2, h3⟩; exact ⟨m, t, h1, h2, (hF t (key m t h1 h2) q).2 h3⟩
theorem ends_rng {s : Lts} {n : Nat} (hr : s.Right) (hn : s.st = (n : Int)) {F : Nat → Nat → Bool} (hF : ∀ p, p < n → ∀ x, F p x = true ↔ TR s p x) {p : Nat} {l : Int} {o : Option (Nat → Bool)} (hp : p < n) (h : EndsOk s F p l o) : ∀ G, o = some G → ∀ x, G x = true → x < n := by
  rintro G rfl x hx
  obtain ⟨m, t, h1, h2, h3⟩ := (h.2 x).1 hx
  have ht : t < n := by
    rcases h2 with ⟨_, rfl⟩ | ⟨_, h2⟩
    · exact h1.ltW hr hn hp
    · exact (stp_lt hr hn h2).2.1
  exact ((hF t ht x).1 h3).ltW hr hn ht
end Pl

/-- The blocks below hi that are rows, and no systems, stand. -/
def KeepS (hi : Nat) (w w' : World) : Prop := ∀ b, b < hi → ∀ c ty z, w.heap[b]? = some (.cells c ty z) → ty ≠ 24 → w'.heap[b]? = w.heap[b]?
theorem KeepS.row {hi b n : Nat} {t : TypeId} {f : Nat → Value} {w w' : World} (hk : KeepS hi w w') (h : w.rowIs b t n f) (hb : b < hi) (ht : t ≠ 24) : w'.rowIs b t n f := by
  obtain ⟨c, h1, _, _⟩ := id h
  exact h.of_block (hk b hb _ _ _ h1 ht)
theorem WkR.keptS {w w' : World} {tb hi rb lb WD : Nat} {R : Nat → Option (Nat → Bool)} (h : WkR w tb hi rb lb WD R) (hk : KeepS hi w w') : WkR w' tb hi rb lb WD R := by
  obtain ⟨bk, h1, h2⟩ := h.ex
  exact ⟨h.lt, h.ne, bk, hk.row h1 h.lt (by decide), fun l hl F hF => ⟨hk.row (h2 l hl F hF).1 (h2 l hl F hF).2.1 (by decide), (h2 l hl F hF).2⟩⟩
theorem WkT.keptS {w w' : World} {hi tb n lb WD i : Nat} {x : Value} {T : Nat → Nat → Option (Nat → Bool)} (h : WkT w hi tb n lb WD i x T) (hk : KeepS hi w w') : WkT w' hi tb n lb WD i x T := by
  obtain ⟨rbk, h1, h2⟩ := h.ex
  exact ⟨h.lt, rbk, hk.row h1 h.lt (by decide), fun p hp => (h2 p hp).keptS hk⟩
theorem KW.keepS {w3 wr : World} {O : Nat} {st lb s0 : Int} {v : Value} {es : List E} (h : KW w3 wr O st lb s0 v es) {c : Array Value} {z : Nat × Nat} (hO : w3.heap[O]? = some (.cells c 24 z)) : KeepS w3.heap.size w3 wr := fun b hb c' ty z' h1 ht => by
  refine h.oth b hb (fun e => ?_)
  subst e
  rw [h1] at hO
  simp only [Option.some.injEq, Obj.cells.injEq] at hO
  exact ht hO.2.1
/-- Own rows of two types lie apart. -/
theorem own_apart {w : World} {b1 b2 k1 k2 n1 n2 : Nat} {e1 e2 : TypeId} {v1 v2 : Value} {l1 l2 : List Value} (h1 : w.ownsRow b1 e1 k1 v1 n1 l1) (h2 : w.ownsRow b2 e2 k2 v2 n2 l2) (he : e1 ≠ e2) {g : Nat} (hg : v1.ownBlock = some g) : some g ≠ v2.ownBlock := by
  intro hg2
  rcases h1.2 with ⟨r1, _⟩ | ⟨g1, c1, u1, r1, _, t1, _⟩
  · subst r1; cases hg
  · rcases h2.2 with ⟨r2, _⟩ | ⟨g2, c2, u2, r2, _, t2, _⟩
    · subst r2; cases hg2
    · subst r1; subst r2
      simp only [Value.ownBlock, Option.some.injEq] at hg hg2
      subst hg; subst hg2
      rw [t1] at t2
      simp only [Option.some.injEq, Obj.cells.injEq] at t2
      exact he t2.2.1

theorem idsO_any {V : World} {o : Option (Nat → Bool)} {b n : Nat} (hb : ∀ F, o = some F → BitRow V b (wds n) F) (hF : ∀ F, o = some F → ∀ x, F x = true → x < n) (hn : n ≤ 1000) (hT : Tab V) :
    Calls Tryz.prog 30 #[wkV o b (wds n)] V fun e w' => ∃ v, e = .returned v ∧ w'.ownsRow V.heap.size 3 1 v (intsOf (idsN (getO o) n)).length ((intsOf (idsN (getO o) n)).flatMap encI) ∧ Below V.heap.size V w' := by
  cases o with
  | none =>
    refine (idsNil_any V).mono ?_
    rintro e w' ⟨rfl, rfl⟩
    have h0 : idsN (getO none) n = [] := by
      rw [List.eq_nil_iff_forall_not_mem]
      intro x hx
      have := (mem_idsN.1 hx).2
      simp [getO] at this
    rw [h0]
    exact ⟨_, rfl, World.ownsRow_nil _ _ _ _, Below.refl _ _⟩
  | some F =>
    refine (idsW_any (hb F rfl) (by have := wds_small hn; omega) hT).mono ?_
    rintro e w' ⟨v, rfl, h1, h2⟩
    rw [idsN_wds (hF F rfl)] at h1
    exact ⟨v, rfl, h1, h2⟩

set_option maxRecDepth 100000 in
/-- The function that Saturate hands to ends. -/
theorem satFn_any {w : World} {xp xb sb n b WD t : Nat} (h0 : w.cell? ⟨xp, 0, none⟩ = some (.pointer (some ⟨xb, 0, none⟩))) (h2 : w.cell? ⟨xb, 1, none⟩ = some (.slice (some ⟨sb, 0, none⟩) n n)) (h1 : w.cell? ⟨sb, t, none⟩ = some (.slice (some ⟨b, 0, none⟩) WD WD)) (ht : t < n) :
    Calls Tryz.prog 32 #[.int .i64 t, .pointer (some ⟨xp, 0, none⟩)] w fun e w' => e = .returned (.slice (some ⟨b, 0, none⟩) WD WD) ∧ Below w.heap.size w w' := by
  have l0 := World.block_lt_of_cell? _ _ h0
  have l1 := World.block_lt_of_cell? _ _ h1
  have l2 := World.block_lt_of_cell? _ _ h2
  have htI : (t : Int) < (n : Int) := by omega
  go_enter Tryz.func32, Tryz.ntmps32
  go_wp2_with fail
  go_ret
  exact ⟨rfl, Below.refl _ _⟩
end Go.Proofs.YtdhloijdefnkpaaGreatDoor
