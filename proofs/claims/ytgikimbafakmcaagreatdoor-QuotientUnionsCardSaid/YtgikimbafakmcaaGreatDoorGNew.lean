/-
  Lemmas.
-/
import Derived.Test.YtgikimbafakmcaaGreatDoorGRws
import Derived.Test.YtgikimbafakmcaaGreatDoorGStrG
import Derived.Test.YtgikimbafakmcaaGreatDoorNrowsB
import Derived.Test.YtgikimbafakmcaaGreatDoorGOrder
import Derived.Laws.EntriesVeiled
set_option maxRecDepth 100000
namespace Go.Proofs.YtgikimbafakmcaaGreatDoor
open Go.RowKit Pl
open Lib (hid)
theorem own_slice {w : World} {base : Nat} {e : TypeId} {k n : Nat} {v : Value} {xs : List Value} (h : w.ownsRow base e k v n xs) : ∃ a m c, v = .slice a m c := by
 rcases h.2 with ⟨rfl, _⟩ | ⟨g, cap, cur, rfl, _⟩
 · exact ⟨_, _, _, rfl⟩
 · exact ⟨_, _, _, rfl⟩
def sysName : ByteArray := ⟨#[115, 121, 115, 116, 101, 109]⟩
theorem normal_ok {p : Addr} {s : Lts} (h : s.Right) {a : Option Addr} {b off c : Nat} {w : World} (hG : GErr 0 p w) (hS : SlAt encE 3 w a b off s.es) :
    Calls Tryz.prog 138 #[.agg #[.int .i64 s.st, .int .i64 s.lb, .int .i64 s.s0, .slice a s.es.length c]] w fun e w' =>
      ∃ v, e = .returned (.tuple #[.agg #[.int .i64 s.st, .int .i64 s.lb, .int .i64 s.s0, v], .nilIface]) /\ w'.ownsRow w.heap.size 57 3 v (nf ltE s.es).length ((nf ltE s.es).flatMap encE) /\ Below w.heap.size w w' := by
 have hl := h.st0
 have hck := fun w hG hS => check_ok (c := c) (p := p) h a b off w hG hS
 have HCK := hid hck; have HG := hid hG; have HS := hid hS
 have hso := fun w hS => sorted_any (w := w) (c := c) (a := a) (b := b) (off := off) (xs := s.es) hS (by omega)
 have HSO := hid hso
 clear hck hG hS hso
 go_enter Tryz.func138, Tryz.ntmps138
 go_wp2_with fail
 have hB0 := ((Below.refl w.heap.size w).alloc (Nat.le_refl _) (Obj.cells #[.int .i64 s.st, .int .i64 s.lb, .int .i64 s.s0, .slice a s.es.length c] 24)).alloc (by simp) (Obj.cells #[.int .i64 0, .int .i64 0, .int .i64 0, .slice none 0 0] 24)
 refine (HCK.out _ (HG.out.below hB0) (HS.out.below hB0 (Nat.le_refl _))).mono ?_
 rintro e w1 ⟨rfl, hB1⟩
 have hB1' := hB0.trans (hB1.mono (by simp; omega))
 have q0 : w1.heap[w.heap.size]? = some (Obj.cells #[.int .i64 s.st, .int .i64 s.lb, .int .i64 s.s0, .slice a s.es.length c] 24) := by
   rw [hB1.block _ (by simp; omega), Below.heap_alloc _ _ _ (by simp), heap_alloc_new]
 have q1 : w1.heap[w.heap.size + 1]? = some (Obj.cells #[.int .i64 0, .int .i64 0, .int .i64 0, .slice none 0 0] 24) := by
   rw [hB1.block _ (by simp)]
   simpa using heap_alloc_new (w.alloc (Obj.cells #[.int .i64 s.st, .int .i64 s.lb, .int .i64 s.s0, .slice a s.es.length c] 24)) (Obj.cells #[.int .i64 0, .int .i64 0, .int .i64 0, .slice none 0 0] 24)
 have hsz1 : w.heap.size + 2 <= w1.heap.size := by have := hB1.size; simpa using this
 have t3 : w1.cell? ⟨w.heap.size, 3, none⟩ = some (.slice a s.es.length c) := by simp [World.cell?, q0]
 have Q0 := hid q0; have Q1 := hid q1; have HB1 := hid hB1'
 clear q0 q1 hB1 hB0 hB1'
 go_wp2_with fail
 refine (HSO.out _ (HS.out.below HB1.out (Nat.le_refl _))).mono ?_
 rintro e w2 ⟨v, rfl, hown, hB2⟩
 have q0 : w2.heap[w.heap.size]? = some (Obj.cells #[.int .i64 s.st, .int .i64 s.lb, .int .i64 s.s0, .slice a s.es.length c] 24) := by
   rw [hB2.block _ (by omega)]; exact Q0.out
 have q1 : w2.heap[w.heap.size + 1]? = some (Obj.cells #[.int .i64 0, .int .i64 0, .int .i64 0, .slice none 0 0] 24) := by
   rw [hB2.block _ (by omega)]; exact Q1.out
 obtain ⟨ga, gn, gc, hv⟩ := own_slice hown
 subst hv
 have hB2' := HB1.out.trans (hB2.mono (by omega))
 have e0 : w2.cell? ⟨w.heap.size, 0, none⟩ = some (.int .i64 s.st) := by simp [World.cell?, q0]
 have e1 : w2.cell? ⟨w.heap.size, 1, none⟩ = some (.int .i64 s.lb) := by simp [World.cell?, q0]
 have e2 : w2.cell? ⟨w.heap.size, 2, none⟩ = some (.int .i64 s.s0) := by simp [World.cell?, q0]
 have e3 : w2.cell? ⟨w.heap.size, 3, none⟩ = some (.slice a s.es.length c) := by simp [World.cell?, q0]
 have e4 : w2.frozen? ⟨w.heap.size, 3, none⟩ = false := by simp [World.frozen?, q0]
 have z0 : w2.cell? ⟨w.heap.size + 1, 0, none⟩ = some (.int .i64 0) := by simp [World.cell?, q1]
 have z1 : w2.cell? ⟨w.heap.size + 1, 1, none⟩ = some (.int .i64 0) := by simp [World.cell?, q1]
 have z2 : w2.cell? ⟨w.heap.size + 1, 2, none⟩ = some (.int .i64 0) := by simp [World.cell?, q1]
 have z3 : w2.cell? ⟨w.heap.size + 1, 3, none⟩ = some (.slice none 0 0) := by simp [World.cell?, q1]
 have zf : ∀ j, w2.frozen? ⟨w.heap.size + 1, j, none⟩ = false := by intro j; simp [World.frozen?, q1]
 have zf0 := zf 0; have zf1 := zf 1; have zf2 := zf 2; have zf3 := zf 3
 have HO2 := hid hown; have HB2 := hid hB2'
 clear q0 q1 hown hB2 hB2' zf t3
 go_wp2
 have hbA : w.heap.size < w1.heap.size := by omega
 have hbB : w.heap.size + 1 < w1.heap.size := by omega
 refine bodyPost_ret (v := .tuple #[.agg #[.int .i64 s.st, .int .i64 s.lb, .int .i64 s.s0, .slice ga gn gc], .nilIface]) (by simp [results, Tryz.results138, go_sem, z0, z1, z2, z3]) rfl ⟨_, rfl, ?_, ?_⟩
 · exact own_mono (ownsRow_setCell_below (ownsRow_setCell_below (ownsRow_setCell_below (ownsRow_setCell_below (ownsRow_setCell_below HO2.out hbA _) hbB _) hbB _) hbB _) hbB _) (by omega)
 · exact ((((HB2.out.setCell (Nat.le_refl _) _).setCell (by show w.heap.size <= w.heap.size + 1; omega) _).setCell (by show w.heap.size <= w.heap.size + 1; omega) _).setCell (by show w.heap.size <= w.heap.size + 1; omega) _).setCell (by show w.heap.size <= w.heap.size + 1; omega) _
theorem FaultAt.below {w w' : World} {v : Value} {l : ByteArray} {i : Value} (h : FaultAt w v l i) (hB : Below w.heap.size w w') : FaultAt w' v l i := by
 obtain ⟨b, h1, h2⟩ := h.ex
 exact ⟨b, h1, by rw [hB.block _ (Array.getElem?_eq_some_iff.1 h2).1]; exact h2⟩
end Go.Proofs.YtgikimbafakmcaaGreatDoor
namespace Go.Proofs.YtgikimbafakmcaaGreatDoor
open Go.RowKit Pl Go.Sort Go.Shelf Go.Lib
def cmpB (a b : E) : Int := orL [cmpI a.2.2 b.2.2, cmpI a.2.1 b.2.1, cmpI a.1 b.1]
theorem orderB_any (x y : E) (w : World) : Calls Tryz.prog 143 #[.agg #[.int .i64 x.1, .int .i64 x.2.1, .int .i64 x.2.2], .agg #[.int .i64 y.1, .int .i64 y.2.1, .int .i64 y.2.2]] w fun e w' => e = .returned (.int .i64 (cmpB x y)) /\ ∃ q os', w' = Go.Sort.grow (w.drewN q) os' := by
 unfold cmpB
 go_enter Tryz.func143, Tryz.ntmps143
 go_wp2
 go_region_held3 (fun w' => w'.cell? ⟨w.heap.size, 0, none⟩ = some (.int .i64 x.1) /\ w'.cell? ⟨w.heap.size, 1, none⟩ = some (.int .i64 x.2.1) /\ w'.cell? ⟨w.heap.size, 2, none⟩ = some (.int .i64 x.2.2) /\ w'.cell? ⟨w.heap.size + 1, 0, none⟩ = some (.int .i64 y.1) /\ w'.cell? ⟨w.heap.size + 1, 1, none⟩ = some (.int .i64 y.2.1) /\ w'.cell? ⟨w.heap.size + 1, 2, none⟩ = some (.int .i64 y.2.2)) (simp [go_sem, World.cell?_alloc_past])
   (first
     | (go_at_call 145; refine (compare_any _ _ _).mono ?_; rintro e w' ⟨rfl, rfl⟩)
     | (go_at_call 144; refine (or_any (slAt_lit3 (x := cmpI x.2.2 y.2.2) (y := cmpI x.2.1 y.2.1) (z := cmpI x.1 y.1) (by simp [go_sem]) (by simp [go_sem]) (by simp [go_sem])) (by simp)).mono ?_; rintro e w' ⟨rfl, rfl⟩))
 go_wp2
 go_ret
 exact ⟨rfl, 1, _, by rw [Go.Sort.alloc_eq_grow, Go.Sort.alloc_eq_grow, Go.Sort.alloc_eq_grow, Go.Sort.grow_grow, Go.Sort.grow_grow]; rfl⟩
theorem ltOf_cmpB (x y : E) : ltOf cmpB x y = Pl.ltB x y := by
 rw [Bool.eq_iff_iff, ltB_iff]
 unfold ltOf cmpB orL orL orL orL cmpI
 simp only [decide_eq_true_eq]
 repeat' split
 all_goals omega
theorem swoB : SWO (ltOf cmpB) where
  irrefl x := by rw [ltOf_cmpB]; exact stoB.irrefl x
  trans x y z := by rw [ltOf_cmpB, ltOf_cmpB, ltOf_cmpB]; exact stoB.trans x y z
  ntrans x y z := by
    rw [ltOf_cmpB, ltOf_cmpB, ltOf_cmpB]
    simp only [Bool.eq_false_iff, ne_eq, ltB_iff]
    omega
theorem nf_of_perm {l ys : List E} (hl : Srt ltE l) (hp : ys.Perm l) (hs : ys.Pairwise (fun a b => ltOf cmpB b a = false)) : ys = nf Pl.ltB l := by
 refine eq_nf stoB ?_ (fun x => hp.mem_iff)
 have hnd : l.Nodup := hl.imp (fun {a b} h e => by subst e; rw [stoE.irrefl] at h; cases h)
 have hnd2 : ys.Nodup := hp.nodup_iff.2 hnd
 refine List.Pairwise.imp₂ ?_ hs hnd2
 intro a b h1 h2
 rw [ltOf_cmpB] at h1
 rcases stoB.total a b with h | h | h
 · exact h
 · exact absurd h h2
 · rw [h1] at h; cases h
end Go.Proofs.YtgikimbafakmcaaGreatDoor
namespace Go.Proofs.YtgikimbafakmcaaGreatDoor
open Go.RowKit Pl Go.Sort
theorem rowsAt_of {w : World} {va : Value} {base vb n : Nat} {key : E -> Int} {st : E -> S} {l : List E} (hn : n <= 1000) (hl : l.length <= 10000)
    (hown : w.ownsRow base 129 2 va l.length ((l.map st).flatMap encS))
    (hrow : w.rowIs vb 3 (n + 1) (fun j => .int .i64 (l.filter (fun x => decide (key x < (j : Int)))).length)) :
    RowsAt w va (.slice (some ⟨vb, 0, none⟩) (n + 1) (n + 1)) n (l.map st) (frK key l) where
  alls := by
    obtain ⟨a, c, b, h1, h2, h3, h4, _⟩ := slAt_own (enc := encS) (xs := l.map st) lenS (by rw [List.length_map]; exact hown)
    exact ⟨a, c, b, 0, h1, h2, h3, h4⟩
  from_ := ⟨vb, rfl, hrow.lt, fun i hi => hrow.cell (by omega)⟩
  mono i _ := frK_mono key i l
  top i _ := by rw [List.length_map]; exact frK_le _ _ _
  small := by rw [List.length_map]; exact hl
  n_le := hn
end Go.Proofs.YtgikimbafakmcaaGreatDoor
namespace Go.Proofs.YtgikimbafakmcaaGreatDoor
open Go.RowKit Pl Go.Sort
open Lib (hid)
def SameUp (base : Nat) (w W : World) : Prop := ∀ x, base <= x -> x < w.heap.size -> W.heap[x]? = w.heap[x]?
theorem SameUp.refl (base : Nat) (w : World) : SameUp base w w := fun _ _ _ => rfl
theorem own_upG {w w' : World} {lo base : Nat} {e : TypeId} {k n : Nat} {v : Value} {xs : List Value} (h : w.ownsRow base e k v n xs) (hB : SameUp lo w w') (hl : lo <= base) : w'.ownsRow base e k v n xs := by
 refine ⟨h.1, ?_⟩
 rcases h.2 with h2 | ⟨g, cap, cur, hv, hb, hg, r⟩
 · exact .inl h2
 · exact .inr ⟨g, cap, cur, hv, hb, by rw [hB _ (Nat.le_trans hl hb) (Array.getElem?_eq_some_iff.1 hg).1]; exact hg, r⟩
theorem slAt_upG {α : Type} {enc : α -> List Value} {k : Nat} {w W : World} {a : Option Addr} {lo b off : Nat} {xs : List α} (h : SlAt enc k w a b off xs) (hB : SameUp lo w W) (hl : 0 < xs.length -> lo <= b) : SlAt enc k W a b off xs :=
  ⟨h.ad, fun hx => by
    have h1 := hB b (hl hx) (h.lt hx)
    rw [Array.getElem?_eq_getElem (h.lt hx)] at h1
    exact (Array.getElem?_eq_some_iff.1 h1).1, fun i x hx j u hu => by
    have hx0 : 0 < xs.length := by have := (List.getElem?_eq_some_iff.1 hx).1; omega
    rw [World.cell?_of_block (w := w) (a := ⟨b, off + i * k + j, none⟩) (hB b (hl hx0) (h.lt hx0))]
    exact h.cell i x hx j u hu⟩
set_option maxHeartbeats 2000000 in
theorem new_hi {p : Addr} {n : Nat} {lb s0 : Int} {es : List E} (h : Lts.Right ⟨n, lb, s0, es⟩) {a : Option Addr} {b off c : Nat} {w : World} (hG : GErr 0 p w) (hS : SlAt encE 3 w a b off es) :
    Calls Tryz.prog 116 #[.agg #[.int .i64 n, .int .i64 lb, .int .i64 s0, .slice a es.length c]] w fun e w' =>
      ∃ gb, e = .returned (.tuple #[.pointer (some ⟨gb, 0, none⟩), .nilIface]) /\ (∀ W, SameUp w.heap.size w' W -> GraphAt W gb ⟨n, lb, s0, nf ltE es⟩) /\ Below w.heap.size w w' /\ w.heap.size <= gb := by
 have hst := h.st0
 have hn := h.norm
 simp only at hst
 have hck := fun w hG hS => normal_ok (c := c) (p := p) h (a := a) (b := b) (off := off) (w := w) hG hS
 simp only at hck
 have HCK := hid hck; have HG := hid hG; have HS := hid hS; have HR := hid hn; have HST := hid hst
 clear hck hG hS hn hst
 have eg : ∀ args w, (callFunc 143 args).run Tryz.prog w = .ok (.enter 143 args) w := enters_of Tryz.func143 (by kernel_rfl) rfl
 have HEG := hid eg; clear eg
 go_enter Tryz.func116, Tryz.ntmps116
 go_wp2_with fail
 have hB0 := ((Below.refl w.heap.size w).alloc (Nat.le_refl _) (Obj.cells #[.int .i64 n, .int .i64 lb, .int .i64 s0, .slice a es.length c] 24))
 refine (HCK.out _ (HG.out.below hB0) (HS.out.below hB0 (Nat.le_refl _))).mono ?_
 rintro e w1 ⟨v, rfl, hown, hB1⟩
 have hsz1 : w.heap.size + 1 <= w1.heap.size := by have := hB1.size; simpa using this
 have hB1' := hB0.trans (hB1.mono (by simp))
 have q1 : w1.heap[w.heap.size]? = some (Obj.cells #[.int .i64 n, .int .i64 lb, .int .i64 s0, .slice a es.length c] 24) := by
   rw [hB1.block _ (by simp), heap_alloc_new]
 have z0 : w1.cell? ⟨w.heap.size, 0, none⟩ = some (.int .i64 n) := by simp [World.cell?, q1]
 have z1 : w1.cell? ⟨w.heap.size, 1, none⟩ = some (.int .i64 lb) := by simp [World.cell?, q1]
 have z2 : w1.cell? ⟨w.heap.size, 2, none⟩ = some (.int .i64 s0) := by simp [World.cell?, q1]
 have z3 : w1.cell? ⟨w.heap.size, 3, none⟩ = some (.slice a es.length c) := by simp [World.cell?, q1]
 have zf : ∀ j, w1.frozen? ⟨w.heap.size, j, none⟩ = false := by intro j; simp [World.frozen?, q1]
 have zf0 := zf 0; have zf1 := zf 1; have zf2 := zf 2; have zf3 := zf 3
 have hlt1 : w.heap.size < w1.heap.size := by omega
 obtain ⟨ea, ec, eb, rfl, hec, hem, hes, heb⟩ := slAt_own lenE hown
 have HES := hid hes; have HB1 := hid hB1'; have HEB := hid heb; have HEC := hid hec
 have Q1 := hid q1
 clear q1 hown hB0 hB1 hB1' zf hes heb hem hec
 go_wp2_with fail
 obtain ⟨gb, hgb⟩ : ∃ gb, gb = w1.heap.size := ⟨_, rfl⟩
 obtain ⟨W1, hW1⟩ : ∃ W1, W1 = ((((w1.setCell ⟨w.heap.size, 0, none⟩ (.int .i64 n)).setCell ⟨w.heap.size, 1, none⟩ (.int .i64 lb)).setCell ⟨w.heap.size, 2, none⟩ (.int .i64 s0)).setCell ⟨w.heap.size, 3, none⟩ (.slice ea (nf ltE es).length ec)).alloc (.cells #[.int .i64 n, .int .i64 lb, .int .i64 s0, .slice ea (nf ltE es).length ec, .slice none 0 0, .slice none 0 0, .slice none 0 0, .slice none 0 0] 217) := ⟨_, rfl⟩
 rw [<- hW1]
 have hebne : 0 < (nf ltE es).length -> eb ≠ w.heap.size := fun hl e => by have := HEB.out hl; simp at this; omega
 have hsW : w1.heap.size + 1 = W1.heap.size := by rw [hW1]; simp [World.setCell]
 have hESW : SlAt encE 3 W1 ea eb 0 (nf ltE es) := by rw [hW1]; exact ((((HES.out.setOther hebne _).setOther hebne _).setOther hebne _).setOther hebne _).alloc _
 have hBW : Below w.heap.size w W1 := by rw [hW1]; exact ((((HB1.out.setCell (Nat.le_refl _) _).setCell (Nat.le_refl _) _).setCell (Nat.le_refl _) _).setCell (Nat.le_refl _) _).alloc (by simp [World.setCell]; omega) _
 have hqg : W1.heap[w1.heap.size]? = some (.cells #[.int .i64 n, .int .i64 lb, .int .i64 s0, .slice ea (nf ltE es).length ec, .slice none 0 0, .slice none 0 0, .slice none 0 0, .slice none 0 0] 217 (0, 0)) := by
   rw [hW1]; exact heap_alloc_at _ _ _ (by simp only [size_setCell])
 have hq1 : W1.heap[w.heap.size]? = some (.cells #[.int .i64 n, .int .i64 lb, .int .i64 s0, .slice ea (nf ltE es).length ec] 24 (0, 0)) := by (
 rw [hW1, Below.heap_alloc _ _ _ (by simp only [size_setCell]; omega)]
 rw [heap_setCell_same _ _ _ _ _ _ (heap_setCell_same _ _ _ _ _ _ (heap_setCell_same _ _ _ _ _ _ (heap_setCell_same _ _ _ _ _ _ Q1.out)))]
 rfl)
 clear hW1
 have hx0 : ∀ x ∈ nf ltE es, 0 <= x.1 /\ x.1 < (n : Int) := fun x hx => by have := offB_false.1 (HR.out.edges x hx); simp only [Lts.norm] at this; omega
 have hx2 : ∀ x ∈ nf ltE es, 0 <= x.2.2 /\ x.2.2 < (n : Int) := fun x hx => by have := offB_false.1 (HR.out.edges x hx); simp only [Lts.norm] at this; omega
 have hlE : (nf ltE es).length <= 10000 := by have := length_nf (lt := ltE) es; have := HST.out; omega
 have hn1 : n <= 1000 := by have := HST.out; omega
 have HX2 := hid hx2; have HESW := hid hESW
 refine (newRowsOut_any n hn1 hESW hlE hx0).mono ?_
 rintro e w2 ⟨va, rfl, hva, hvf, hB2⟩
 have HVA2 := hid hva; have HVF2 := hid hvf
 obtain ⟨a2, m2, k2, rfl⟩ := own_slice hva
 have hsz2 := hB2.size
 have q2 : w2.heap[w.heap.size]? = some (.cells #[.int .i64 n, .int .i64 lb, .int .i64 s0, .slice ea (nf ltE es).length ec] 24 (0, 0)) := by rw [hB2.block _ (by omega)]; exact hq1
 have g2 := (hB2.block w1.heap.size (by omega)).trans hqg
 have z0 : w2.cell? ⟨w.heap.size, 0, none⟩ = some (.int .i64 n) := by simp [World.cell?, q2]
 have z3 : w2.cell? ⟨w.heap.size, 3, none⟩ = some (.slice ea (nf ltE es).length ec) := by simp [World.cell?, q2]
 have y4 : w2.cell? ⟨w1.heap.size, 4, none⟩ = some (.slice none 0 0) := by simp [World.cell?, g2]
 have y5 : w2.cell? ⟨w1.heap.size, 5, none⟩ = some (.slice none 0 0) := by simp [World.cell?, g2]
 have yf : ∀ j, w2.frozen? ⟨w1.heap.size, j, none⟩ = false := by intro j; simp [World.frozen?, g2]
 have yf4 := yf 4; have yf5 := yf 5
 have hlt2 : w1.heap.size < w2.heap.size := by omega
 have hlt3 : w.heap.size < w2.heap.size := by omega
 have hne2 : ¬ w.heap.size = w1.heap.size := by omega
 have Q2 := hid q2; have G2 := hid g2
 have hES2 := hESW.below hB2 (Nat.le_refl _)
 have hBw2 := hBW.trans (hB2.mono (by omega))
 have HES2 := hid hES2; have HBW2 := hid hBw2
 clear hx2 hx0 hESW q2 g2 yf hES2 hBw2 hB2 hva hvf hqg hq1 hBW
 go_wp2_with fail
 obtain ⟨W3, hW3⟩ : ∃ W3, W3 = (w2.setCell ⟨w1.heap.size, 4, none⟩ (.slice a2 m2 k2)).setCell ⟨w1.heap.size, 5, none⟩ (.slice (some ⟨W1.heap.size + 1, 0, none⟩) (n + 1) (n + 1)) := ⟨_, rfl⟩
 rw [<- hW3]
 have hs3 : W3.heap.size = w2.heap.size := by rw [hW3]; simp only [size_setCell]
 have hebg : 0 < (nf ltE es).length -> eb ≠ w1.heap.size := fun hl => Nat.ne_of_lt (HES.out.lt hl)
 have hES3 : SlAt encE 3 W3 ea eb 0 (nf ltE es) := by rw [hW3]; exact (HES2.out.setOther hebg _).setOther hebg _
 have hVA3 := own_mono (base' := W1.heap.size) HVA2.out (by omega)
 have hVA3' : W3.ownsRow W1.heap.size 129 2 (.slice a2 m2 k2) (nf ltE es).length (((nf ltE es).map stO).flatMap encS) := by
   rw [hW3]; exact ownsRow_setCell_below (ownsRow_setCell_below hVA3 (by show w1.heap.size < W1.heap.size; omega) _) (by show w1.heap.size < W1.heap.size; omega) _
 have hVF3 : W3.rowIs (W1.heap.size + 1) 3 (n + 1) (fun j => .int .i64 ((nf ltE es).filter (fun x => decide (x.1 < (j : Int)))).length) := by
   rw [hW3]; exact (HVF2.out.setOther (by show W1.heap.size + 1 ≠ w1.heap.size; omega) _).setOther (by show W1.heap.size + 1 ≠ w1.heap.size; omega) _
 have hQ3 : W3.heap[w.heap.size]? = some (.cells #[.int .i64 n, .int .i64 lb, .int .i64 s0, .slice ea (nf ltE es).length ec] 24 (0, 0)) := by
   rw [hW3, Below.heap_setCell _ _ _ _ (by show w.heap.size ≠ w1.heap.size; omega), Below.heap_setCell _ _ _ _ (by show w.heap.size ≠ w1.heap.size; omega)]; exact Q2.out
 have hG3 : W3.heap[w1.heap.size]? = some (.cells #[.int .i64 n, .int .i64 lb, .int .i64 s0, .slice ea (nf ltE es).length ec, .slice a2 m2 k2, .slice (some ⟨W1.heap.size + 1, 0, none⟩) (n + 1) (n + 1), .slice none 0 0, .slice none 0 0] 217 (0, 0)) := by
   rw [hW3, heap_set2 G2.out]; rfl
 have hBW3 : Below w.heap.size w W3 := by rw [hW3]; exact (HBW2.out.setCell (by show w.heap.size <= w1.heap.size; omega) _).setCell (by show w.heap.size <= w1.heap.size; omega) _
 have HES3 := hid hES3; have HVA := hid hVA3'; have HVF := hid hVF3; have HQ3 := hid hQ3; have HG3 := hid hG3; have HBW3 := hid hBW3
 clear hW3 hES3 hVA3 hVA3' hVF3 hQ3 hG3 hBW3 z0 z3 y4 y5 yf4 yf5
 refine (cloneE_any HES3.out (by omega)).mono ?_
 rintro e w3 ⟨v3, rfl, hown3, hB3⟩
 have HO3 := hid hown3; have HB3 := hid hB3
 clear hown3 hB3
 go_wp2_with fail
 refine (sortFuncE_v cmpB swoB 143 HEG.out (fun x y W => orderB_any x y W) HO3.out (by omega)).mono ?_
 rintro e w4 ⟨rfl, ys, hp, hsrt, hown4, hB4⟩
 have hys := nf_of_perm (srt_nf stoE es) hp hsrt
 have hB4' := hB4 HB3.out
 subst hys
 have hq4 : w4.heap[w.heap.size]? = some (.cells #[.int .i64 n, .int .i64 lb, .int .i64 s0, .slice ea (nf ltE es).length ec] 24 (0, 0)) := by rw [hB4'.block _ (by omega)]; exact HQ3.out
 have z0 : w4.cell? ⟨w.heap.size, 0, none⟩ = some (.int .i64 n) := by simp [World.cell?, hq4]
 have hlB : (nf Pl.ltB (nf ltE es)).length <= 10000 := by have := length_nf (lt := Pl.ltB) (nf ltE es); omega
 obtain ⟨ba, bc, bb, rfl, hbc, hbm, hbs, _⟩ := slAt_own lenE hown4
 have HBS := hid hbs; have HB4 := hid hB4'
 have hs4 := hB4'.size
 clear hp hsrt hown4 hB4 hB4' hq4 hbs HO3
 go_wp2_with fail
 refine (newRowsIn_any n hn1 HBS.out hlB (fun x hx => HX2.out x ((mem_nf stoB x _).1 hx))).mono ?_
 rintro e w5 ⟨v5, rfl, hva5, hvf5, hB5⟩
 obtain ⟨a5, m5, k5, rfl⟩ := own_slice hva5
 have hB5' : Below W3.heap.size W3 w5 := HB4.out.trans (hB5.mono hs4)
 have hs5 := hB5.size
 have hg5 : w5.heap[w1.heap.size]? = _ := (hB5'.block w1.heap.size (by omega)).trans HG3.out
 have y6 : w5.cell? ⟨w1.heap.size, 6, none⟩ = some (.slice none 0 0) := by simp [World.cell?, hg5]
 have y7 : w5.cell? ⟨w1.heap.size, 7, none⟩ = some (.slice none 0 0) := by simp [World.cell?, hg5]
 have yf6 : w5.frozen? ⟨w1.heap.size, 6, none⟩ = false := by simp [World.frozen?, hg5]
 have yf7 : w5.frozen? ⟨w1.heap.size, 7, none⟩ = false := by simp [World.frozen?, hg5]
 have HVA5 := hid hva5; have HVF5 := hid hvf5; have HB5 := hid hB5'; have HG5 := hid hg5
 clear z0 hva5 hvf5 hB5 hB5' hg5
 go_wp2
 go_ret2
 have hne6 : ∀ {x : Nat}, w1.heap.size < x -> x ≠ w1.heap.size := fun h => by omega
 refine ⟨w1.heap.size, rfl, fun W hW => ⟨HR.out, srt_nf stoE es, .slice ea (nf ltE es).length ec, .slice a2 m2 k2, .slice (some ⟨W1.heap.size + 1, 0, none⟩) (n + 1) (n + 1), .slice a5 m5 k5, .slice (some ⟨w4.heap.size + 1, 0, none⟩) (n + 1) (n + 1), ?_, ⟨ea, ec, eb, 0, rfl, HEC.out, ?_⟩, ?_, ?_⟩, ?_, by omega⟩
 · rw [hW w1.heap.size (by omega) (by rw [size_setCell, size_setCell]; omega), heap_set2 HG5.out]; rfl
 · exact slAt_upG (((HES3.out.below HB5.out (Nat.le_refl _)).setOther hebg _).setOther hebg _) hW (fun hp => by have := HEB.out hp; simp at this; omega)
 · have h1 := own_upG (ownsRow_setCell_below (ownsRow_setCell_below (own_below HVA.out HB5.out) (a := ⟨w1.heap.size, 6, none⟩) (by show w1.heap.size < W1.heap.size; omega) (.slice a5 m5 k5)) (a := ⟨w1.heap.size, 7, none⟩) (by show w1.heap.size < W1.heap.size; omega) (.slice (some ⟨w4.heap.size + 1, 0, none⟩) (n + 1) (n + 1))) hW (by omega)
   have h2 := ((HVF.out.of_block (HB5.out.block _ HVF.out.lt)).setOther (a := ⟨w1.heap.size, 6, none⟩) (by show W1.heap.size + 1 ≠ w1.heap.size; omega) (.slice a5 m5 k5)).setOther (a := ⟨w1.heap.size, 7, none⟩) (by show W1.heap.size + 1 ≠ w1.heap.size; omega) (.slice (some ⟨w4.heap.size + 1, 0, none⟩) (n + 1) (n + 1))
   exact rowsAt_of (key := fun x => x.1) (st := stO) hn1 hlE h1 (h2.of_block (hW _ (by omega) h2.lt))
 · have h1 := own_upG (ownsRow_setCell_below (ownsRow_setCell_below (own_mono (base' := w4.heap.size) HVA5.out (by omega)) (a := ⟨w1.heap.size, 6, none⟩) (by show w1.heap.size < w4.heap.size; omega) (.slice a5 m5 k5)) (a := ⟨w1.heap.size, 7, none⟩) (by show w1.heap.size < w4.heap.size; omega) (.slice (some ⟨w4.heap.size + 1, 0, none⟩) (n + 1) (n + 1))) hW (by omega)
   have h2 := (HVF5.out.setOther (a := ⟨w1.heap.size, 6, none⟩) (by show w4.heap.size + 1 ≠ w1.heap.size; omega) (.slice a5 m5 k5)).setOther (a := ⟨w1.heap.size, 7, none⟩) (by show w4.heap.size + 1 ≠ w1.heap.size; omega) (.slice (some ⟨w4.heap.size + 1, 0, none⟩) (n + 1) (n + 1))
   exact rowsAt_of (key := fun x => x.2.2) (st := stI) hn1 hlB h1 (h2.of_block (hW _ (by omega) h2.lt))
 · exact ((HBW3.out.trans (HB5.out.mono (by omega))).setCell (by show w.heap.size <= w1.heap.size; omega) _).setCell (by show w.heap.size <= w1.heap.size; omega) _
theorem new_up {p : Addr} {s : Lts} (h : s.Right) {a : Option Addr} {b off c : Nat} {w : World} (hG : GErr 0 p w) (hS : SlAt encE 3 w a b off s.es) :
    Calls Tryz.prog 116 #[.agg #[.int .i64 s.st, .int .i64 s.lb, .int .i64 s.s0, .slice a s.es.length c]] w fun e w' =>
      ∃ gb, e = .returned (.tuple #[.pointer (some ⟨gb, 0, none⟩), .nilIface]) /\ (∀ W, SameUp w.heap.size w' W -> GraphAt W gb s.norm) /\ Below w.heap.size w w' /\ w.heap.size <= gb := by
 obtain ⟨st, lb, s0, es⟩ := s
 obtain ⟨n, rfl⟩ := Int.eq_ofNat_of_zero_le (show 0 <= st from h.st0.1)
 exact new_hi h hG hS
theorem new_ok {p : Addr} {s : Lts} (h : s.Right) {a : Option Addr} {b off c : Nat} {w : World} (hG : GErr 0 p w) (hS : SlAt encE 3 w a b off s.es) :
    Calls Tryz.prog 116 #[.agg #[.int .i64 s.st, .int .i64 s.lb, .int .i64 s.s0, .slice a s.es.length c]] w fun e w' =>
      ∃ gb, e = .returned (.tuple #[.pointer (some ⟨gb, 0, none⟩), .nilIface]) /\ GraphAt w' gb s.norm /\ Below w.heap.size w w' /\ w.heap.size <= gb := by
 refine (new_up h hG hS).mono ?_
 rintro e w' ⟨gb, h1, h2, h3, h4⟩
 exact ⟨gb, h1, h2 _ (SameUp.refl _ _), h3, h4⟩
end Go.Proofs.YtgikimbafakmcaaGreatDoor
