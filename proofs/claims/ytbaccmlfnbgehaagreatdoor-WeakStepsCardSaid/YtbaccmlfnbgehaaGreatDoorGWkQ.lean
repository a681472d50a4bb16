/-
  Lemmas.
-/
import Derived.Test.YtbaccmlfnbgehaaGreatDoorWkN
import Derived.Test.YtbaccmlfnbgehaaGreatDoorWkC
import Derived.Test.YtbaccmlfnbgehaaGreatDoorGTauG
import Derived.Test.YtbaccmlfnbgehaaGreatDoorGOMap
import Derived.Test.YtbaccmlfnbgehaaGreatDoorTauI
set_option maxHeartbeats 16000000
set_option maxRecDepth 100000
open Nat renaming le_refl → l3, zero_le → m0
open List renaming length_append → l4, range → l6, flatMap_append → l7, append_assoc → l8, take_of_length_le → l9, getElem?_map → m1, length_cons → m2, range_succ → m3, length_nil → m4, length_map → m5, mem_range → m6
open Array renaming getElem?_eq_some_iff → l5
open Go.Proofs.Tryz
namespace Go.Proofs.YtbaccmlfnbgehaaGreatDoor
open Go.RowKit Pl
open Lib (hid)
theorem z1d (n : Nat) : canon (fl n (fun _ => 0)) = fl n (fun _ => 0) := by
 by_cases h : n = 0
 · subst h; rfl
 · exact z1e n
structure WkRes (s : Lts) (n lb : Nat) (C : Nat -> Int) : Prop where
  big : ∀ K, KOk s n lb K -> Big (satS s n lb K) n C
  can : canon (fl n C) = fl n C
  rng : ∀ p, p < n -> 0 <= C p /\ C p < (n : Int)
theorem j3y {n : Nat} {C : Nat -> Int} (h : canon (fl n C) = fl n C) {p : Nat} (hp : p < n) : 0 <= C p /\ C p < (n : Int) := by
 have h1 := q0g (f := C) hp
 have h2 : clf n C p = C p := x2e (by rw [<- p0p, h]) hp
 have h3 := y0r n C
 rw [h2] at h1
 omega
theorem z0o {p : Addr} {s : Lts} {n lb : Nat} (hr : s.Right) (hn : s.st = (n : Int)) (hlb : s.lb = (lb : Int)) (h300 : n <= 300) {a : Option Addr} {b off c : Nat} {w : World} (hG : WkErr p w) (hT : Tab w) (hS : SlAt encE 3 w a b off s.es) :
    Calls prog 88 #[.agg #[.int .i64 s.st, .int .i64 s.lb, .int .i64 s.s0, .slice a s.es.length c]] w fun e w' => ∃ (cb : Nat) (C : Nat -> Int), e = .returned (.tuple #[.slice (some ⟨cb, 0, none⟩) n n, .nilIface]) /\ SlAt encI 1 w' (some ⟨cb, 0, none⟩) cb 0 (fl n C) /\ WkRes s n lb C /\ w.heap.size <= cb /\ Below w.heap.size w w' := by
 have hmk := run_make_row' (P := prog) 50 3 (.int .i64 0) 8 underlying50 (by kernel_rfl) rfl .i64 .i64 n (by omega) (by omega)
 have hB0 := (Below.refl w.heap.size w).alloc (l3 _) (Obj.cells #[.int .i64 s.st, .int .i64 s.lb, .int .i64 s.s0, .slice a s.es.length c] 24)
 have hbx := heap_alloc_new w (Obj.cells #[.int .i64 s.st, .int .i64 s.lb, .int .i64 s.s0, .slice a s.es.length c] 24)
 have HMD := hid (v0p (c := c) hr hn h300 (hG.below hB0) (hS.below hB0 (l3 _)))
 obtain ⟨el, hel⟩ : ∃ el, el = s.es.length := ⟨_, rfl⟩
 rw [hn, <- hel] at HMD hB0 hbx ⊢
 have HB0 := hid hB0; have HBX := hid hbx; have HR := hid hr; have HN := hid hn; have HLB := hid hlb; have HT := hid hT
 clear hG hS hB0 hbx hr hn hlb hT hel
 go_enter func88, ntmps88
 go_wp2_with fail
 refine HMD.out.mono ?_
 rintro e w1 ⟨xb, gb, sb, F, rfl, hX, hxb, hB1⟩
 have hb1 := HB0.out.trans (hB1.mono (by simp))
 have hx := (hB1.block w.heap.size (by simp)).trans HBX.out
 have xl := (l5.1 hx).1
 have x0 : w1.cell? ⟨w.heap.size, 0, none⟩ = some (.int .i64 n) := by simp [World.cell?, hx]
 have hrw := World.rowIs_made w1 (.int .i64 0) n 3
 have hq1 := (Below.refl w1.heap.size w1).alloc (l3 _) (.cells (madeCells #[.int .i64 0] n) 3)
 have HX := hid hX; have HB1 := hid hb1; have HRW := hid hrw; have HQ1 := hid hq1
 clear hX hxb hB1 hb1 hx HMD HB0 HBX hrw hq1
 go_wp2_with fail
 clear x0 xl
 go_loopg [6, 7] (n + 1) (fun g v6 _ wr => ∃ (cb : Nat) (C : Nat -> Int), n + 1 <= g + (dist (fl n C)).length /\ v6 = .slice (some ⟨cb, 0, none⟩) n n /\ wr.rowIs cb 3 n (fun i => .int .i64 (C i)) /\ (∀ K, KOk s n lb K -> HoldsS (satS s n lb K) n C) /\ canon (fl n C) = fl n C /\ w1.heap.size <= cb /\ Below w1.heap.size w1 wr)
 case atStart => exact ⟨w1.heap.size, fun _ => 0, by omega, rfl, HRW.out, fun K _ => .zero, z1d n, l3 _, HQ1.out⟩
 case round => (
 obtain ⟨cb, C, hgk, rfl, hrow, hro, hca, hcl, hB⟩ := hrel
 have HROW := hid hrow; have HRO := hid hro; have HCA := hid hca; have HB := hid hB
 have hws := hB.size
 have hcbl := hrow.lt
 have HNX := hid (next_any (cc := n) (HX.out.call hB) HLB.out (HT.out.below (HB1.out.trans (hB.mono HB1.out.size))) hca (j1y hrow))
 clear hrow hro hca hB HRW HQ1
 go_wp2_with fail
 refine HNX.out.mono ?_
 rintro e w2 ⟨nb, D, rfl, hnx, hns, hcd, hnb, hB2⟩
 have hsl := j1y hnx
 have hcs := (j1y HROW.out).below hB2 (l3 _)
 have heq := z0w (c1 := n) (c2 := n) hsl hcs (by rw [j0v]; omega) (by rw [j0v]; omega)
 rw [j0v, j0v] at heq
 have HEQ := hid heq; have HNX2 := hid hnx; have HCS := hid hcs; have HNS := hid hns; have HCD := hid hcd
 have HBZ := hid (HB.out.trans (hB2.mono hws))
 have hnbl : w1.heap.size <= nb := by omega
 clear hsl hcs heq hnx hns hcd hnb hB2 HNX
 by_cases he : fl n D = fl n C
 · (
 have hde : decide (fl n D = fl n C) = true := by simp [he]
 rw [hde] at HEQ
 have HEE := hid he
 clear hde he
 go_wp2_with fail
 refine HEQ.out.mono ?_
 rintro e w7 ⟨rfl, q7, rfl⟩
 go_wp2_with fail
 go_ret2
 exact ⟨cb, C, rfl, HCS.out.below (j0q (Below.refl _ _)) (l3 _), ⟨fun K hK => (HRO.out K hK).done (HNS.out.sat HR.out HN.out HLB.out hK) (fun p hp => x2e HEE.out hp), HCA.out, fun p hp => j3y HCA.out hp⟩, by have := HB1.out.size; omega, j0q (HB1.out.trans (HBZ.out.mono HB1.out.size))⟩)
 · (
 have hde : decide (fl n D = fl n C) = false := by simp [he]
 rw [hde] at HEQ
 have hmore := j2l HNS.out HCA.out HCD.out he
 have hle := y0r n D
 clear hde he
 go_wp2_with fail
 refine HEQ.out.mono ?_
 rintro e w7 ⟨rfl, q7, rfl⟩
 go_wp2_with fail
 go_roundg (gk - 1)
 case rel => exact ⟨nb, D, by omega, rfl, HNX2.out, fun K hK => (HRO.out K hK).next (HNS.out.sat HR.out HN.out HLB.out hK), HCD.out, hnbl, j0q HBZ.out⟩
 case measure => omega))
end Go.Proofs.YtbaccmlfnbgehaaGreatDoor
namespace Go.Proofs.YtbaccmlfnbgehaaGreatDoor
open Go.RowKit Pl
namespace Pl
def labE (n : Nat) (K : Nat -> Nat -> Nat -> Bool) (p l : Nat) : List E := (idsN (K p l) n).map fun q : Nat => ((p : Int), (l : Int), (q : Int))
def rowE' (n lb : Nat) (K : Nat -> Nat -> Nat -> Bool) (p : Nat) : List E := (l6 lb).flatMap (labE n K p)
def preE (n lb : Nat) (K : Nat -> Nat -> Nat -> Bool) (i : Nat) : List E := (l6 i).flatMap (rowE' n lb K)
theorem v1a (n lb : Nat) (K : Nat -> Nat -> Nat -> Bool) : preE n lb K n = satE n lb K := rfl
theorem x0r (n lb : Nat) (K : Nat -> Nat -> Nat -> Bool) (i : Nat) : preE n lb K (i + 1) = preE n lb K i ++ rowE' n lb K i := by
 unfold preE; rw [m3, l7]; simp
theorem v0v {α : Type} (f : Nat -> List α) (r : Nat) : (l6 (r + 1)).flatMap f = (l6 r).flatMap f ++ f r := by
 rw [m3, l7]; simp
theorem flat_le {α : Type} (f : Nat -> List α) {r : Nat} : ∀ {m : Nat}, r <= m -> ((l6 r).flatMap f).length <= ((l6 m).flatMap f).length
  | 0, h => by obtain rfl : r = 0 := by omega
               exact l3 _
  | m + 1, h => by
    by_cases e : r = m + 1
    · subst e; exact l3 _
    · have h1 := flat_le f (r := r) (m := m) (by omega)
      rw [v0v f m, l4]; omega
theorem k3o {n lb : Nat} {K : Nat -> Nat -> Nat -> Bool} {i r q : Nat} (hi : i < n) (hr : r < lb) : ((preE n lb K i ++ (l6 r).flatMap (labE n K i)) ++ (labE n K i r).take q).length <= (satE n lb K).length := by
 have h1 := flat_le (rowE' n lb K) (r := i + 1) (m := n) hi
 have h2 := flat_le (labE n K i) (r := r + 1) (m := lb) hr
 have h3 : (preE n lb K (i + 1)).length <= (satE n lb K).length := h1
 rw [x0r, l4] at h3
 rw [v0v, l4] at h2
 have h4 : (rowE' n lb K i).length = ((l6 lb).flatMap (labE n K i)).length := rfl
 rw [l4, l4, List.length_take]
 omega
theorem y1o {s : Lts} {n lb : Nat} (hr : s.Right) (hn : s.st = (n : Int)) {F : Nat -> Nat -> Bool} (hF : ∀ p, p < n -> ∀ x, F p x = true ↔ TR s p x) {R : Nat -> Nat -> Option (Nat -> Bool)} (hR : ∀ p l, p < n -> l < lb -> EndsOk s F p (l : Int) (R p l)) : KOk s n lb (fun p l q => getO (R p l) q) := by
 intro p l q hp hl hq
 have h := hR p l hp hl
 have key : ∀ m t, TR s p m -> one s m (l : Int) t -> t < n := fun m t h1 h2 => by (
 rcases h2 with ⟨_, rfl⟩ | ⟨_, h2⟩
 · exact h1.ltW hr hn hp
 · exact (z0r hr hn h2).2.1)
 show getO (R p l) q = true ↔ _
 cases e : R p l with
 | none => (
 rw [e] at h
 constructor
 · intro h1; simp [getO] at h1
 · rintro ⟨m, t, h1, h2, h3⟩; exact absurd ⟨m, t, h1, h2⟩ h)
 | some G => (
 rw [e] at h
 show G q = true ↔ _
 rw [h.2 q]
 constructor
 · rintro ⟨m, t, h1, h2, h3⟩; exact ⟨m, t, h1, h2, (hF t (key m t h1 h2) q).1 h3⟩
 · rintro ⟨m, t, h1, h2, h3⟩; exact ⟨m, t, h1, h2, (hF t (key m t h1 h2) q).2 h3⟩)
theorem v2k {s : Lts} {n : Nat} (hr : s.Right) (hn : s.st = (n : Int)) {F : Nat -> Nat -> Bool} (hF : ∀ p, p < n -> ∀ x, F p x = true ↔ TR s p x) {p : Nat} {l : Int} {o : Option (Nat -> Bool)} (hp : p < n) (h : EndsOk s F p l o) : ∀ G, o = some G -> ∀ x, G x = true -> x < n := by
 rintro G rfl x hx
 obtain ⟨m, t, h1, h2, h3⟩ := (h.2 x).1 hx
 have ht : t < n := by (
 rcases h2 with ⟨_, rfl⟩ | ⟨_, h2⟩
 · exact h1.ltW hr hn hp
 · exact (z0r hr hn h2).2.1)
 exact ((hF t ht x).1 h3).ltW hr hn ht
end Pl
def KeepS (hi : Nat) (w w' : World) : Prop := ∀ b, b < hi -> ∀ c ty z, w.heap[b]? = some (.cells c ty z) -> ty ≠ 24 -> w'.heap[b]? = w.heap[b]?
theorem KeepS.row {hi b n : Nat} {t : TypeId} {f : Nat -> Value} {w w' : World} (hk : KeepS hi w w') (h : w.rowIs b t n f) (hb : b < hi) (ht : t ≠ 24) : w'.rowIs b t n f := by
 obtain ⟨c, h1, _, _⟩ := id h
 exact h.of_block (hk b hb _ _ _ h1 ht)
theorem WkR.keptS {w w' : World} {tb hi rb lb WD : Nat} {R : Nat -> Option (Nat -> Bool)} (h : WkR w tb hi rb lb WD R) (hk : KeepS hi w w') : WkR w' tb hi rb lb WD R := by
 obtain ⟨bk, h1, h2⟩ := h.ex
 exact ⟨h.lt, h.ne, bk, hk.row h1 h.lt (by decide), fun l hl F hF => ⟨hk.row (h2 l hl F hF).1 (h2 l hl F hF).2.1 (by decide), (h2 l hl F hF).2⟩⟩
theorem WkT.keptS {w w' : World} {hi tb n lb WD i : Nat} {x : Value} {T : Nat -> Nat -> Option (Nat -> Bool)} (h : WkT w hi tb n lb WD i x T) (hk : KeepS hi w w') : WkT w' hi tb n lb WD i x T := by
 obtain ⟨rbk, h1, h2⟩ := h.ex
 exact ⟨h.lt, rbk, hk.row h1 h.lt (by decide), fun p hp => (h2 p hp).keptS hk⟩
theorem KW.keepS {w3 wr : World} {O : Nat} {st lb s0 : Int} {v : Value} {es : List E} (h : KW w3 wr O st lb s0 v es) {c : Array Value} {z : Nat × Nat} (hO : w3.heap[O]? = some (.cells c 24 z)) : KeepS w3.heap.size w3 wr := fun b hb c' ty z' h1 ht => by
  refine h.oth b hb (fun e => ?_)
  subst e
  rw [h1] at hO
  simp only [Option.some.injEq, Obj.cells.injEq] at hO
  exact ht hO.2.1
theorem v0b {w : World} {b1 b2 k1 k2 n1 n2 : Nat} {e1 e2 : TypeId} {v1 v2 : Value} {l1 l2 : List Value} (h1 : w.ownsRow b1 e1 k1 v1 n1 l1) (h2 : w.ownsRow b2 e2 k2 v2 n2 l2) (he : e1 ≠ e2) {g : Nat} (hg : v1.ownBlock = some g) : some g ≠ v2.ownBlock := by
 intro hg2
 rcases h1.2 with ⟨r1, _⟩ | ⟨g1, c1, u1, r1, _, t1, _⟩
 · subst r1; cases hg
 · (
 rcases h2.2 with ⟨r2, _⟩ | ⟨g2, c2, u2, r2, _, t2, _⟩
 · subst r2; cases hg2
 · (
 subst r1; subst r2
 simp only [Value.ownBlock, Option.some.injEq] at hg hg2
 subst hg; subst hg2
 rw [t1] at t2
 simp only [Option.some.injEq, Obj.cells.injEq] at t2
 exact he t2.2.1))
theorem z2u {V : World} {o : Option (Nat -> Bool)} {b n : Nat} (hb : ∀ F, o = some F -> BitRow V b (wds n) F) (hF : ∀ F, o = some F -> ∀ x, F x = true -> x < n) (hn : n <= 1000) (hT : Tab V) :
    Calls prog 91 #[wkV o b (wds n)] V fun e w' => ∃ v, e = .returned v /\ w'.ownsRow V.heap.size 3 1 v (intsOf (idsN (getO o) n)).length ((intsOf (idsN (getO o) n)).flatMap encI) /\ Below V.heap.size V w' := by
 cases o with
 | none => (
 refine (j2q V).mono ?_
 rintro e w' ⟨rfl, rfl⟩
 have h0 : idsN (getO none) n = [] := by (
 rw [List.eq_nil_iff_forall_not_mem]
 intro x hx
 have := (q0e.1 hx).2
 simp [getO] at this)
 rw [h0]
 exact ⟨_, rfl, World.ownsRow_nil _ _ _ _, Below.refl _ _⟩)
 | some F => (
 refine (z0i (hb F rfl) (by have := p0g hn; omega) hT).mono ?_
 rintro e w' ⟨v, rfl, h1, h2⟩
 rw [z0j (hF F rfl)] at h1
 exact ⟨v, rfl, h1, h2⟩)
theorem p2n {w : World} {xp xb sb n b WD t : Nat} (h0 : w.cell? ⟨xp, 0, none⟩ = some (.pointer (some ⟨xb, 0, none⟩))) (h2 : w.cell? ⟨xb, 1, none⟩ = some (.slice (some ⟨sb, 0, none⟩) n n)) (h1 : w.cell? ⟨sb, t, none⟩ = some (.slice (some ⟨b, 0, none⟩) WD WD)) (ht : t < n) :
    Calls prog 93 #[.int .i64 t, .pointer (some ⟨xp, 0, none⟩)] w fun e w' => e = .returned (.slice (some ⟨b, 0, none⟩) WD WD) /\ Below w.heap.size w w' := by
 have l0 := World.block_lt_of_cell? _ _ h0
 have l1 := World.block_lt_of_cell? _ _ h1
 have l2 := World.block_lt_of_cell? _ _ h2
 have htI : (t : Int) < (n : Int) := by omega
 go_enter func93, ntmps93
 go_wp2_with fail
 go_ret
 exact ⟨rfl, Below.refl _ _⟩
end Go.Proofs.YtbaccmlfnbgehaaGreatDoor
namespace Go.Proofs.YtbaccmlfnbgehaaGreatDoor
open Go.RowKit Pl
theorem KW.size3 {w3 wr : World} {O : Nat} {st lb s0 : Int} {v : Value} {es : List E} (h : KW w3 wr O st lb s0 v es) : w3.heap.size <= wr.heap.size := by
 have hl := h.lt
 refine Nat.le_of_not_lt (fun hc => ?_)
 by_cases e : w3.heap.size - 1 = O
 · have := (l5.1 h.oo).1; omega
 · have h1 := h.oth (w3.heap.size - 1) (by omega) e
   rw [Array.getElem?_eq_none (by omega), Array.getElem?_eq_getElem (by omega)] at h1
   cases h1
def SatPost (s : Lts) (n lb : Nat) (pe : Addr) (w : World) (e : Ending) (w' : World) : Prop :=
  ∃ K, KOk s n lb K /\ Below w.heap.size w w' /\ (((satE n lb K).length <= 10000 /\ ∃ ve, e = .returned (.tuple #[.agg #[.int .i64 n, .int .i64 s.lb, .int .i64 s.s0, ve], .nilIface]) /\ w'.ownsRow w.heap.size 71 3 ve (satE n lb K).length ((satE n lb K).flatMap encE)) ∨
    (10000 < (satE n lb K).length /\ ∃ v, e = .returned (.tuple #[.agg #[.int .i64 0, .int .i64 0, .int .i64 0, .slice none 0 0], v]) /\ FaultAt w' v weakName (.iface 278 (.pointer (some pe)))))
theorem y0l {p pe : Addr} {s : Lts} {n lb : Nat} (hr : s.Right) (hn : s.st = (n : Int)) (hlb : s.lb = (lb : Int)) (h300 : n <= 300) {a : Option Addr} {b off c : Nat} {w : World} (hG : WkErr p w) (hGE : GErr 1 pe w) (hT : Tab w) (hS : SlAt encE 3 w a b off s.es) :
    Calls prog 27 #[.agg #[.int .i64 s.st, .int .i64 s.lb, .int .i64 s.s0, .slice a s.es.length c]] w (SatPost s n lb pe w) := by
 have hst := hr.st0
 have hlb1 : lb <= 201 := by omega
 have hB0 := ((Below.refl w.heap.size w).alloc (l3 _) (Obj.cells #[.int .i64 s.st, .int .i64 s.lb, .int .i64 s.s0, .slice a s.es.length c] 24)).alloc (by simp) (Obj.cells #[.int .i64 0, .int .i64 0, .int .i64 0, .slice none 0 0] 24)
 have hX0 := (Below.heap_alloc (w.alloc (Obj.cells #[.int .i64 s.st, .int .i64 s.lb, .int .i64 s.s0, .slice a s.es.length c] 24)) (Obj.cells #[.int .i64 0, .int .i64 0, .int .i64 0, .slice none 0 0] 24) w.heap.size (by simp)).trans (heap_alloc_new w _)
 have hR0 := heap_alloc_new (w.alloc (Obj.cells #[.int .i64 s.st, .int .i64 s.lb, .int .i64 s.s0, .slice a s.es.length c] 24)) (Obj.cells #[.int .i64 0, .int .i64 0, .int .i64 0, .slice none 0 0] 24)
 rw [show (w.alloc (Obj.cells #[.int .i64 s.st, .int .i64 s.lb, .int .i64 s.s0, .slice a s.es.length c] 24)).heap.size = w.heap.size + 1 by simp] at hR0
 have HMD := Lib.hid (v0p (c := c) hr hn h300 (hG.below hB0) (hS.below hB0 (l3 _)))
 obtain ⟨el, hel⟩ : ∃ el, el = s.es.length := ⟨_, rfl⟩
 rw [hn, <- hel] at HMD hB0 hX0 hR0 ⊢
 have HB0 := Lib.hid hB0; have HR0 := Lib.hid hR0; have HX0 := Lib.hid hX0; have HR := Lib.hid hr; have HN := Lib.hid hn; have HLB := Lib.hid hlb; have HT := Lib.hid hT; have HGE := Lib.hid hGE
 clear hG hS hB0 hR0 hX0 hr hn hlb hT hel hGE hst
 go_enter func27, ntmps27
 go_wp2_with fail
 refine HMD.out.mono ?_
 rintro e w1 ⟨xb, gb, sb, F, rfl, hX, hxb, hB1⟩
 have hb1 := HB0.out.trans (hB1.mono (by simp; omega))
 have hr1 := (hB1.block (w.heap.size + 1) (by simp)).trans HR0.out
 have hx1 := (hB1.block w.heap.size (by simp; omega)).trans HX0.out
 have hrl1 := (l5.1 hr1).1
 obtain ⟨x0, x1, x2, x3, x4⟩ := q0j hx1
 have HX := Lib.hid hX; have HB1 := Lib.hid hb1; have HR1 := Lib.hid hr1
 clear hX hxb hB1 hb1 hr1 hx1 HMD HB0 HR0 HX0
 go_wp2_with fail
 obtain ⟨P0, hP0⟩ : ∃ P0 : Obj, P0 = Obj.cells #[.pointer (some ⟨xb, 0, none⟩)] 116 (0, 0) := ⟨_, rfl⟩
 have ho2 := heap_alloc_new (w1.alloc (Obj.cells #[.pointer (some ⟨xb, 0, none⟩)] 116)) (Obj.cells #[.int .i64 n, .int .i64 s.lb, .int .i64 s.s0, .slice none 0 0] 24)
 rw [show (w1.alloc (Obj.cells #[.pointer (some ⟨xb, 0, none⟩)] 116)).heap.size = w1.heap.size + 1 by simp] at ho2
 have hp2 := (Below.heap_alloc (w1.alloc (Obj.cells #[.pointer (some ⟨xb, 0, none⟩)] 116)) (Obj.cells #[.int .i64 n, .int .i64 s.lb, .int .i64 s.s0, .slice none 0 0] 24) w1.heap.size (by simp)).trans (heap_alloc_new w1 _)
 have hb12 := ((Below.refl w1.heap.size w1).alloc (l3 _) (Obj.cells #[.pointer (some ⟨xb, 0, none⟩)] 116)).alloc (by simp) (Obj.cells #[.int .i64 n, .int .i64 s.lb, .int .i64 s.s0, .slice none 0 0] 24)
 have hs2 : ((w1.alloc (Obj.cells #[.pointer (some ⟨xb, 0, none⟩)] 116)).alloc (Obj.cells #[.int .i64 n, .int .i64 s.lb, .int .i64 s.s0, .slice none 0 0] 24)).heap.size = w1.heap.size + 2 := by simp
 obtain ⟨W2, hW2⟩ : ∃ W2, W2 = (w1.alloc (Obj.cells #[.pointer (some ⟨xb, 0, none⟩)] 116)).alloc (Obj.cells #[.int .i64 n, .int .i64 s.lb, .int .i64 s.s0, .slice none 0 0] 24) := ⟨_, rfl⟩
 rw [<- hW2] at ho2 hp2 hb12 hs2
 rw [<- hW2]
 have hX2 := HX.out.call hb12
 obtain ⟨bk, hbk, hbits⟩ := hX2.sil.ex
 have hxp2 := (l5.1 hp2).1
 have hena : EndAt W2 n (wds n) 93 (.pointer (some ⟨w1.heap.size, 0, none⟩)) F bk := by (
 refine ⟨fun t ht => (hbits t (m6.2 ht)).2.2, fun V hV t ht => p2n (xb := xb) (sb := sb) (n := n) (by have h := (hV.block w1.heap.size hxp2).trans hp2; simp [World.cell?, h]) (hX2.call hV).cells.2.1 ?_ ht⟩
 have h := (hbk.of_block (hV.block sb hbk.lt)).cell ht
 rw [if_pos (m6.2 ht)] at h
 exact h)
 have hb2w := HB1.out.trans (hb12.mono HB1.out.size)
 refine (u1f hX2 HLB.out (show n <= 1000 by omega) (enters_of func93 (by kernel_rfl) rfl) hena (HT.out.below hb2w)).mono ?_
 rintro e w3 ⟨tb3, R, rfl, htab, htlo, hB3, hR⟩
 have hoo3 := (hB3.block (w1.heap.size + 1) (by omega)).trans ho2
 have hr3 := (hB3.block (w.heap.size + 1) (by omega)).trans ((hb12.block (w.heap.size + 1) hrl1).trans HR1.out)
 have hb3 := hb2w.trans (hB3.mono hb2w.size)
 have hs3 := hB3.size
 obtain ⟨O, hO⟩ : ∃ O, O = w1.heap.size + 1 := ⟨_, rfl⟩
 rw [<- hO] at hoo3 ⊢
 obtain ⟨K, hK⟩ : ∃ K : Nat -> Nat -> Nat -> Bool, K = fun p l q => getO (R p l) q := ⟨_, rfl⟩
 have HKO : Hid (KOk s n lb K) := Lib.hid (by rw [hK]; exact y1o HR.out HN.out HX.out.tr hR)
 have hOl3 : O < w3.heap.size := by omega
 have hRO : w.heap.size + 1 < O := by omega
 have HBW : Hid (∀ wx, Below O w3 wx -> Below w.heap.size w wx) := Lib.hid (fun wx hx => hb3.trans (hx.mono (by omega)))
 obtain ⟨rbk, hrw, hwr⟩ := htab.ex
 have HROW : Hid (∀ wr v es, KW w3 wr O n s.lb s.s0 v es -> ∀ i, i < n -> wr.cell? ⟨tb3, i, none⟩ = some (.slice (some ⟨rbk i, 0, none⟩) lb lb) /\ tb3 < wr.heap.size /\ rbk i < wr.heap.size /\ ∀ r, r < lb -> ∃ xv, wr.cell? ⟨rbk i, r, none⟩ = some xv /\ Calls prog 91 #[xv] wr (fun e w' => ∃ lv, e = .returned lv /\ w'.ownsRow wr.heap.size 3 1 lv (intsOf (idsN (K i r) n)).length ((intsOf (idsN (K i r) n)).flatMap encI) /\ Below wr.heap.size wr w')) := Lib.hid (fun wr v es hkw i hi => by (
 have hks := hkw.keepS hoo3
 have h1 := hks.row hrw htab.lt (by decide)
 have h2 := h1.cell hi
 rw [if_pos hi] at h2
 have h3 := (hwr i hi).keptS hks
 obtain ⟨bq, h4, _⟩ := id h3.ex
 refine ⟨h2, h1.lt, h4.lt, fun r hr => ?_⟩
 obtain ⟨gb, hg0, hg1⟩ := h3.at hr
 refine ⟨_, hg0, ?_⟩
 have h5 := z2u (fun G e => (hg1 G e).1) (v2k HR.out HN.out HX.out.tr hi (hR i r hi hr)) (by omega) (HT.out.below (HBW.out _ hkw.bel))
 rw [hK]
 exact h5))
 have hk3 : KW w3 w3 O n s.lb s.s0 (.slice none 0 0) (preE n lb K 0) := ⟨fun _ _ _ => rfl, Below.refl _ _, hoo3, World.ownsRow_nil _ _ _ _, hOl3⟩
 have HK3 := Lib.hid hk3; have HR3 := Lib.hid hr3; have HGB : Hid (∀ wx, Below O w3 wx -> GErr 1 pe wx) := Lib.hid (fun wx hx => HGE.out.below (HBW.out _ hx))
 have hn3 : n <= 1000 := by omega
 clear hk3 hr3 hoo3 hb3 hs3 hO hK hrw hwr htab htlo hR hB3 hb2w hena hbits hbk hX2 hxp2 hW2 hs2 hb12 hp2 ho2 hP0 P0 HR1 HB1 HGE x0 x1 x2 x3 x4 hrl1
 go_wp2_with fail
 go_loopw [3, 7, 8, 9, 10, 12, 35] (fun _ _ _ _ _ _ v35 wx => ∃ (i : Nat) (v : Value), v35 = .int .i64 i /\ i <= n /\ KW w3 wx O n s.lb s.s0 v (preE n lb K i) /\ (preE n lb K i).length <= 10000) (fun _ _ _ _ _ _ v35 _ => n - (intOf v35).toNat)
 case atStart => exact ⟨0, _, rfl, m0 _, HK3.out, m0 _⟩
 case round => (
 obtain ⟨i, v, rfl, hi, hkw, hle⟩ := hrel
 have HKW := Lib.hid hkw
 clear HK3 hkw
 by_cases hin : i < n
 · (
 obtain ⟨a0, al, rl, _⟩ := HROW.out _ _ _ HKW.out i hin
 have hiI : (i : Int) < (n : Int) := by omega
 obtain ⟨P, hP⟩ : ∃ P, P = preE n lb K i := ⟨_, rfl⟩
 rw [<- hP] at HKW hle
 have HP := Lib.hid hP
 clear hP
 go_wp2_with fail
 clear a0 al rl
 go_loopw [3, 9, 10, 12, 42] (fun _ _ _ _ v42 wx => ∃ (r : Nat) (v : Value), v42 = .int .i64 r /\ r <= lb /\ KW w3 wx O n s.lb s.s0 v (P ++ (l6 r).flatMap (labE n K i)) /\ (P ++ (l6 r).flatMap (labE n K i)).length <= 10000) (fun _ _ _ _ v42 _ => lb - (intOf v42).toNat)
 case atStart => exact ⟨0, _, rfl, m0 _, by simpa using HKW.out, by simpa using hle⟩
 case round => (
 obtain ⟨r, v, rfl, hr, hkw, hle2⟩ := hrel
 have HKW2 := Lib.hid hkw
 clear HKW hkw
 by_cases hrl : r < lb
 · (
 obtain ⟨_, _, rl, hids⟩ := HROW.out _ _ _ HKW2.out i hin
 obtain ⟨xv, hx0, hid⟩ := hids r hrl
 have hrI : (r : Int) < (lb : Int) := by omega
 have HID := Lib.hid hid
 have HPL : Hid (∀ q, ((P ++ (l6 r).flatMap (labE n K i)) ++ (labE n K i r).take q).length <= (satE n lb K).length) := Lib.hid (fun q => by rw [HP.out]; exact k3o hin hrl)
 have HFS : Hid (P ++ (l6 (r + 1)).flatMap (labE n K i) = (P ++ (l6 r).flatMap (labE n K i)) ++ labE n K i r) := Lib.hid (by rw [v0v, l8])
 obtain ⟨P2, hP2⟩ : ∃ P2, P2 = P ++ (l6 r).flatMap (labE n K i) := ⟨_, rfl⟩
 rw [<- hP2] at HKW2 hle2 HPL HFS
 clear hP2 hid hids
 go_wp2_with fail
 refine HID.out.mono ?_
 rintro e wq ⟨lv, rfl, hown, hBq⟩
 obtain ⟨L, hL⟩ : ∃ L, L = idsN (K i r) n := ⟨_, rfl⟩
 rw [<- hL] at hown
 obtain ⟨ml, hml⟩ : ∃ ml, ml = L.length := ⟨_, rfl⟩
 rw [j0p, <- hml] at hown
 have HLE : Hid (labE n K i r = L.map (fun q : Nat => ((i : Int), (r : Int), (q : Int)))) := Lib.hid (by rw [hL]; rfl)
 have hmln : ml <= n := by rw [hml, hL]; exact p0q _ _
 obtain ⟨B3, hB3e⟩ : ∃ B3, B3 = wr.heap.size := ⟨_, rfl⟩
 have hOB3 : O < B3 := by have := HKW2.out.bel.size; rw [hB3e]; have := World.block_lt_of_cell? _ _ HKW2.out.cells.1; exact this
 have hkq := HKW2.out.call hBq
 rw [<- hB3e] at hown
 obtain ⟨la, lc, lb2, rfl, _, _, hls, _⟩ := j0d p0v (by rw [j0p, <- hml]; exact hown)
 rw [j0p, <- hml] at hown ⊢
 have HML := Lib.hid hml; have HKQ := Lib.hid hkq; have HOW := Lib.hid hown
 clear hL hml hB3e hkq hown hls hBq HKW2 HID hx0 rl
 go_wp2_with fail
 go_loopw [3, 12, 50] (fun _ _ v50 wx => ∃ (q : Nat) (v : Value), v50 = .int .i64 q /\ q <= ml /\ KW w3 wx O n s.lb s.s0 v (P2 ++ (labE n K i r).take q) /\ (P2 ++ (labE n K i r).take q).length <= 10000 /\ wx.ownsRow B3 3 1 (.slice la ml lc) ml ((intsOf L).flatMap encI)) (fun _ _ v50 _ => ml - (intOf v50).toNat)
 case atStart => exact ⟨0, _, rfl, m0 _, by simpa using HKQ.out, by simpa using hle2, HOW.out⟩
 case round => (
 obtain ⟨q, v, rfl, hq, hkw, hle3, hown⟩ := hrel
 have HKW3 := Lib.hid hkw; have HOW3 := Lib.hid hown
 clear hkw hown HKQ HOW
 by_cases hqm : q < ml
 · (
 obtain ⟨t, ht⟩ := j0a (xs := L) (i := q) (by rw [<- HML.out]; exact hqm)
 obtain ⟨la3, lc3, lb3, hlc, _, _, hls, _⟩ := j0d p0v (by rw [j0p, <- HML.out]; exact HOW3.out)
 simp only [Value.slice.injEq] at hlc
 rw [<- hlc.1] at hls
 clear hlc
 obtain rfl := hls.ad (by rw [j0p, <- HML.out]; omega)
 have l0 := hls.ci (i := q) (x := (t : Int)) (by unfold intsOf; rw [m1, ht]; rfl)
 simp only [Nat.zero_add] at l0
 have ll := hls.lt (by rw [j0p, <- HML.out]; omega)
 have hqI : (q : Int) < (ml : Int) := by omega
 have HTK : Hid ((labE n K i r).take (q + 1) = (labE n K i r).take q ++ [((i : Int), (r : Int), (t : Int))]) := Lib.hid (take_snoc (by rw [HLE.out, m1, ht]; rfl))
 have hpl := HPL.out (q + 1)
 rw [HTK.out, <- l8, l4] at hpl
 simp only [m2, m4] at hpl
 have HAS : Hid (P2 ++ (labE n K i r).take (q + 1) = (P2 ++ (labE n K i r).take q) ++ [((i : Int), (r : Int), (t : Int))]) := Lib.hid (by rw [HTK.out, l8])
 obtain ⟨Q, hQ⟩ : ∃ Q, Q = P2 ++ (labE n K i r).take q := ⟨_, rfl⟩
 rw [<- hQ] at HKW3 hle3 hpl HAS
 have hown3 := HKW3.out.own
 obtain ⟨ta, tc, tbb, rfl, _, _, _, _⟩ := j0d k0q hown3
 obtain ⟨ql, hql⟩ : ∃ ql, ql = Q.length := ⟨_, rfl⟩
 have hkw5 := HKW3.out
 rw [<- hql] at hkw5 hle3 hpl
 obtain ⟨o0, o1, o2, o3, of3⟩ := hkw5.cells
 have HKW5 := Lib.hid hkw5
 have hOlr : O < wr.heap.size := World.block_lt_of_cell? _ _ o0
 have HQL := Lib.hid hql
 clear hQ hown3 hql hkw5 hls HKW3 HTK
 by_cases h10 : ql = 10000
 · (
 have hge := HGB.out _ HKW5.out.bel
 have g0 := hge.cell; have gl := hge.lt
 have hr6 := (HKW5.out.oth (w.heap.size + 1) (by omega) (by omega)).trans HR3.out
 obtain ⟨⟨z0, z1, z2, z3, z4⟩, f0, f1, f2, f3⟩ := u2u hr6
 have HBX := Lib.hid (HBW.out _ HKW5.out.bel)
 have hws := HBX.out.size
 have hd : (ql : Int) = 10000 := by omega
 have h11 : 10000 < (satE n lb K).length := by omega
 clear hge
 clear z0 z1 z2 z3 z4 f0 f1 f2 f3
 have HR6 := Lib.hid hr6
 clear hr6
 go_wp2_with fail
 refine (p0n _ _ _ _).mono ?_
 rintro e w9 ⟨rfl, hw9⟩
 have hr9 : w9.heap[w.heap.size + 1]? = some (.cells #[.int .i64 0, .int .i64 0, .int .i64 0, .slice none 0 0] 24 (0, 0)) := by rw [hw9]; exact (Below.heap_alloc wr _ _ (by omega)).trans HR6.out
 have hf9 : w9.heap[wr.heap.size]? = some (.cells #[.string weakName, .int .i64 0, .int .i64 0, .iface 278 (.pointer (some pe))] 88 (0, 0)) := by rw [hw9]; exact heap_alloc_new wr _
 have hb9 : Below w.heap.size w w9 := by rw [hw9]; exact HBX.out.alloc hws _
 obtain ⟨⟨z0, z1, z2, z3, z4⟩, f0, f1, f2, f3⟩ := u2u hr9
 have HF9 := Lib.hid hf9; have HB9 := Lib.hid hb9
 have hne : wr.heap.size ≠ w.heap.size + 1 := by omega
 clear hw9 hr9 hf9 hb9 o0 o1 o2 o3 of3 l0 ll g0 gl HR6
 go_wp2_with fail
 refine bodyPost_ret (v := .tuple #[.agg #[.int .i64 0, .int .i64 0, .int .i64 0, .slice none 0 0], .iface 85 (.pointer (some ⟨wr.heap.size, 0, none⟩))]) (by simp [results, results27, go_sem, z0, z1, z2, z3]) rfl ⟨K, HKO.out, ?_, .inr ⟨h11, _, rfl, ⟨wr.heap.size, rfl, ?_⟩⟩⟩
 · exact (((HB9.out.setCell (by show w.heap.size <= w.heap.size + 1; omega) _).setCell (by show w.heap.size <= w.heap.size + 1; omega) _).setCell (by show w.heap.size <= w.heap.size + 1; omega) _).setCell (by show w.heap.size <= w.heap.size + 1; omega) _
 · rw [Below.heap_setCell _ _ _ _ hne, Below.heap_setCell _ _ _ _ hne, Below.heap_setCell _ _ _ _ hne, Below.heap_setCell _ _ _ _ hne]; exact HF9.out)
 · (
 have hown2 := HKW5.out.own.alloc (Obj.cells #[.int .i64 (i : Int), .int .i64 (r : Int), .int .i64 (t : Int)] 71)
 rw [<- HQL.out] at hown2
 have hBz : w3.heap.size <= (wr.alloc (Obj.cells #[.int .i64 (i : Int), .int .i64 (r : Int), .int .i64 (t : Int)] 71)).heap.size := by have h1 := HKW5.out.size3; simp; omega
 have HOWN2 := Lib.hid hown2; have HBZ := Lib.hid hBz
 have HOWA := Lib.hid (HOW3.out.alloc (Obj.cells #[.int .i64 (i : Int), .int .i64 (r : Int), .int .i64 (t : Int)] 71))
 have hd : ¬ (ql : Int) = 10000 := by omega
 have hqll : ql <= 9999 := by omega
 clear hown2 hBz
 go_wp2_with (at_builtin; go_must (refine k0i rfl _ _ _ rfl x1s (Below.refl _ _) HBZ.out (by rfl) HOWN2.out ⟨wr.heap.size, 0, none⟩ 1 1 [.int .i64 (i : Int), .int .i64 (r : Int), .int .i64 (t : Int)] rfl rfl (k3t (e := ((i : Int), (r : Int), (t : Int))) (heap_alloc_new wr _)) (by simp [Value.oneCell']) (by decide) (by omega) (by unfold maxLen; omega) ?_); intro g2 cap2 w7 hown7 _ hg7; have kp := KW.keepc (HKW5.out.call ((Below.refl _ _).alloc (l3 _) _)) hg7; have kp0 := kp.1; have kp1 := kp.2; have kp2 : O < w7.heap.size := (World.block_lt_of_cell? _ _ kp0); clear kp)
 have h8 := KW.setEs (v' := .slice (some ⟨g2, 0, none⟩) (ql + 1) cap2) (es' := Q ++ [((i : Int), (r : Int), (t : Int))]) (HKW5.out.call ((Below.refl _ _).alloc (l3 _) _)) (by rw [l4, l7, <- HQL.out]; exact hown7) hg7
 have h9 := j0l (k0v HOWA.out (w' := w7) (fun g hg => hg7.block g (HOWA.out.lt g hg).2 (v0b HOWA.out HOWN2.out (by decide) hg))) (p := ⟨O, 3, none⟩) (fun g hg => by have h1 := (HOWA.out.lt g hg).1; show g ≠ O; omega) (.slice (some ⟨g2, 0, none⟩) (ql + 1) cap2)
 have H8 := Lib.hid h8; have H9 := Lib.hid h9
 clear h8 h9 hown7 hg7 kp0 kp1 kp2
 go_roundw
 case rel => exact ⟨q + 1, _, by go_num, by omega, by rw [HAS.out]; exact H8.out, by rw [HAS.out, l4, <- HQL.out]; simp only [m2, m4]; omega, j0r H9.out (l3 _)⟩
 case measure => simp [intOf]; omega))
 · (
 obtain rfl : ml = q := by omega
 have hkw4 : KW w3 wr O n s.lb s.s0 v (P ++ (l6 (r + 1)).flatMap (labE n K i)) := by (
 have h := HKW3.out
 rw [l9 (by rw [HLE.out, m5, <- HML.out]; exact l3 _), <- HFS.out] at h
 exact h)
 rw [l9 (by rw [HLE.out, m5, <- HML.out]; exact l3 _), <- HFS.out] at hle3
 have HKW4 := Lib.hid hkw4
 clear hkw4 HKW3 HOW3
 go_wp2_with fail
 go_roundw
 case rel => exact ⟨r + 1, v, by go_num, by omega, HKW4.out, hle3⟩
 case measure => simp [intOf]; omega)))
 · (
 obtain rfl : lb = r := by omega
 have hkw4 : KW w3 wr O n s.lb s.s0 v (preE n lb K (i + 1)) := by rw [x0r, <- HP.out]; exact HKW2.out
 have hle4 : (preE n lb K (i + 1)).length <= 10000 := by rw [x0r, <- HP.out]; exact hle2
 have HKW4 := Lib.hid hkw4
 clear hkw4 HKW2 hle2
 go_wp2_with fail
 go_roundw
 case rel => exact ⟨i + 1, v, by go_num, by omega, HKW4.out, hle4⟩
 case measure => simp [intOf]; omega)))
 · (
 obtain rfl : n = i := by omega
 rw [v1a] at HKW hle
 obtain ⟨ta, tc, tbb, rfl, _, _, htsl, _⟩ := j0d k0q HKW.out.own
 obtain ⟨tl, htl⟩ : ∃ tl, tl = (satE n lb K).length := ⟨_, rfl⟩
 have ho6 := HKW.out.oo
 have hr6 := (HKW.out.oth (w.heap.size + 1) (by omega) (by omega)).trans HR3.out
 rw [<- htl] at ho6
 obtain ⟨y0, y1, y2, y3, y4⟩ := q0j ho6
 obtain ⟨⟨z0, z1, z2, z3, z4⟩, f0, f1, f2, f3⟩ := u2u hr6
 have HTL := Lib.hid htl
 have hgs : ∀ g, (Value.slice ta tl tc).ownBlock = some g -> g ≠ w.heap.size + 1 := fun g hg => by (
 have hw := HKW.out.own
 rw [<- htl] at hw
 have h1 := (hw.lt g hg).1
 omega)
 have HGS := Lib.hid hgs
 have HBX := Lib.hid (HBW.out _ HKW.out.bel)
 clear htsl ho6 hr6 htl hgs
 go_wp2_with fail
 refine bodyPost_ret (v := .tuple #[.agg #[.int .i64 n, .int .i64 s.lb, .int .i64 s.s0, .slice ta tl tc], .nilIface]) (by simp [results, results27, go_sem, z0, z1, z2, z3]) rfl ⟨K, HKO.out, ?_, .inl ⟨hle, _, rfl, ?_⟩⟩
 · exact (((HBX.out.setCell (by show w.heap.size <= w.heap.size + 1; omega) _).setCell (by show w.heap.size <= w.heap.size + 1; omega) _).setCell (by show w.heap.size <= w.heap.size + 1; omega) _).setCell (by show w.heap.size <= w.heap.size + 1; omega) _
 · have hw := HKW.out.own
   rw [<- HTL.out] at hw ⊢
   exact j0r (j0l (j0l (j0l (j0l hw (p := ⟨w.heap.size + 1, 0, none⟩) (fun g hg => HGS.out g hg) _) (p := ⟨w.heap.size + 1, 1, none⟩) (fun g hg => HGS.out g hg) _) (p := ⟨w.heap.size + 1, 2, none⟩) (fun g hg => HGS.out g hg) _) (p := ⟨w.heap.size + 1, 3, none⟩) (fun g hg => HGS.out g hg) _) (by omega)))
theorem FaultW.setR {w : World} {p : Addr} {v : Value} {R : Nat} {c : Array Value} (h : FaultW w p v) (hR : w.heap[R]? = some (.cells c 24 (0, 0))) (x0 x1 x2 x3 : Value) :
    FaultW ((((w.setCell ⟨R, 0, none⟩ x0).setCell ⟨R, 1, none⟩ x1).setCell ⟨R, 2, none⟩ x2).setCell ⟨R, 3, none⟩ x3) p v := by
 obtain ⟨vi, ⟨b, hv, hb⟩, ⟨b2, hv2, hb2⟩⟩ := h
 have n1 : b ≠ R := fun e => by subst e; rw [hb] at hR; simp at hR
 have n2 : b2 ≠ R := fun e => by subst e; rw [hb2] at hR; simp at hR
 exact ⟨vi, ⟨b, hv, by rw [Below.heap_setCell _ _ _ _ n1, Below.heap_setCell _ _ _ _ n1, Below.heap_setCell _ _ _ _ n1, Below.heap_setCell _ _ _ _ n1]; exact hb⟩,
   ⟨b2, hv2, by rw [Below.heap_setCell _ _ _ _ n2, Below.heap_setCell _ _ _ _ n2, Below.heap_setCell _ _ _ _ n2, Below.heap_setCell _ _ _ _ n2]; exact hb2⟩⟩
end Go.Proofs.YtbaccmlfnbgehaaGreatDoor
