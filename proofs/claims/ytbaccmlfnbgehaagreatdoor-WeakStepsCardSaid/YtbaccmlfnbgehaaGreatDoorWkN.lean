/-
  Lemmas.
-/
import Derived.Test.YtbaccmlfnbgehaaGreatDoorGOMap
import Derived.Test.YtbaccmlfnbgehaaGreatDoorWkG
import Derived.Test.YtbaccmlfnbgehaaGreatDoorGWkL
import Derived.Test.YtbaccmlfnbgehaaGreatDoorGTauG
import Derived.Deep.QuietTactic
import Derived.Deep.RegionHeldLaw
import Derived.BigQuiet
open List renaming getElem_toArray -> qga, getElem_cons_zero -> qgz, getElem_cons_succ -> qgs, setIfInBounds_toArray -> qgt, set_cons_zero -> qgx, set_cons_succ -> qgy
set_option maxRecDepth 100000
open Array renaming getElem?_eq_some_iff → l2
open Nat renaming le_refl → l3, lt_of_lt_of_le → l4, zero_le → l6
open List renaming length_append → l5, any_eq_true → l7, mem_range → l8, range → l9
open Go.Proofs.Tryz
namespace Go.Proofs.YtbaccmlfnbgehaaGreatDoor
open Go.RowKit Pl
open Lib (hid)
structure EndT (w : World) (hi tb n WD : Nat) (G : Nat -> Nat -> Bool) (i : Nat) (x : Value) : Prop where
  lt : tb < hi
  ex : ∃ bk : Nat -> Nat, w.rowIs tb 124 n (fun p => if p < i then .slice (some ⟨bk p, 0, none⟩) WD WD else if p = i then x else .slice none 0 0) /\ ∀ p, p < i -> bk p ≠ tb /\ bk p < hi /\ BitRow w (bk p) WD (G p)
section
variable {w w' : World} {hi hi' tb n WD i : Nat} {G : Nat -> Nat -> Bool} {x : Value}
theorem EndT.call (h : EndT w hi tb n WD G i x) (hB : Below w.heap.size w w') : EndT w' hi tb n WD G i x := by
 obtain ⟨bk, h1, h2⟩ := h.ex
 exact ⟨h.lt, bk, h1.of_block (hB.block tb h1.lt), fun p hp => ⟨(h2 p hp).1, (h2 p hp).2.1, (h2 p hp).2.2.below hB⟩⟩
theorem EndT.tlt (h : EndT w hi tb n WD G i x) : tb < w.heap.size := by obtain ⟨bk, h1, _⟩ := h.ex; exact h1.lt
theorem EndT.frozen (h : EndT w hi tb n WD G i x) (p : Nat) : w.frozen? ⟨tb, p, none⟩ = false := by obtain ⟨bk, h1, _⟩ := h.ex; exact h1.frozen p
theorem EndT.here (h : EndT w hi tb n WD G i x) (hin : i < n) : w.cell? ⟨tb, i, none⟩ = some x := by
 obtain ⟨bk, h1, _⟩ := h.ex
 have := h1.cell hin
 rw [if_neg (by omega), if_pos rfl] at this
 exact this
theorem EndT.at (h : EndT w hi tb n WD G i x) {p : Nat} (hp : p < i) (hpn : p < n) : ∃ b, w.cell? ⟨tb, p, none⟩ = some (.slice (some ⟨b, 0, none⟩) WD WD) /\ BitRow w b WD (G p) := by
 obtain ⟨bk, h1, h2⟩ := h.ex
 have := h1.cell hpn
 rw [if_pos hp] at this
 exact ⟨bk p, this, (h2 p hp).2.2⟩
theorem EndT.open (h : EndT w hi tb n WD G i x) (v : Value) : EndT (w.setCell ⟨tb, i, none⟩ v) hi tb n WD G i v := by
 obtain ⟨bk, h1, h2⟩ := h.ex
 refine ⟨h.lt, bk, (h1.set i v).congr (fun p _ => ?_), fun p hp => ⟨(h2 p hp).1, (h2 p hp).2.1, (h2 p hp).2.2.of_block (Below.heap_setCell _ _ _ _ (h2 p hp).1)⟩⟩
 by_cases e : p = i
 · subst e; rw [if_pos rfl, if_neg (by omega), if_pos rfl]
 · rw [if_neg e, if_neg e, if_neg e]
theorem EndT.close {rb : Nat} (h : EndT w hi tb n WD G i (.slice (some ⟨rb, 0, none⟩) WD WD)) (hr : BitRow w rb WD (G i)) (hne : rb ≠ tb) (hh : hi <= hi') (hrb : rb < hi') : EndT w hi' tb n WD G (i + 1) (.slice none 0 0) := by
 obtain ⟨bk, h1, h2⟩ := h.ex
 refine ⟨l4 h.lt hh, updO bk i rb, h1.congr (fun p _ => ?_), fun p hp => ?_⟩
 · by_cases e : p < i
   · rw [if_pos e, if_pos (by omega), j0n _ _ (by omega)]
   · by_cases e2 : p = i
     · subst e2; rw [if_neg e, if_pos rfl, if_pos (by omega), j0o]
     · rw [if_neg e, if_neg e2, if_neg (by omega)]; simp
 · by_cases e : p = i
   · subst e; rw [j0o]; exact ⟨hne, hrb, hr⟩
   · rw [j0n _ _ e]
     have := h2 p (by omega)
     exact ⟨this.1, l4 this.2.1 hh, this.2.2⟩
theorem EndT.chg (h : EndT w hi tb n WD G i x) {rb : Nat} (hc : Chg w w' rb) (hle : hi <= rb) : EndT w' hi tb n WD G i x := by
 obtain ⟨bk, h1, h2⟩ := h.ex
 have hlt := h.lt
 exact ⟨h.lt, bk, h1.of_block (hc.oth tb (by omega) h1.lt), fun p hp => ⟨(h2 p hp).1, (h2 p hp).2.1, (h2 p hp).2.2.of_block (hc.oth _ (by have := (h2 p hp).2.1; omega) (h2 p hp).2.2.lt)⟩⟩
theorem EndT.made (w : World) (n WD : Nat) (G : Nat -> Nat -> Bool) : EndT (w.alloc (.cells (madeCells #[.slice none 0 0] n) 124)) (w.heap.size + 1) w.heap.size n WD G 0 (.slice none 0 0) :=
  ⟨by omega, fun _ => 0, (World.rowIs_made w (.slice none 0 0) n 124).congr (fun p _ => by simp), fun p hp => by omega⟩
theorem EndT.mono (h : EndT w hi tb n WD G i x) (hh : hi <= hi') : EndT w hi' tb n WD G i x := by
 obtain ⟨bk, h1, h2⟩ := h.ex
 exact ⟨l4 h.lt hh, bk, h1, fun p hp => ⟨(h2 p hp).1, l4 (h2 p hp).2.1 hh, (h2 p hp).2.2⟩⟩
end
theorem j2m {w : World} {eb tb n b WD t : Nat} (h0 : w.cell? ⟨eb, 0, none⟩ = some (.slice (some ⟨tb, 0, none⟩) n n)) (h1 : w.cell? ⟨tb, t, none⟩ = some (.slice (some ⟨b, 0, none⟩) WD WD)) (ht : t < n) :
    Calls prog 154 #[.int .i64 t, .pointer (some ⟨eb, 0, none⟩)] w fun e w' => e = .returned (.slice (some ⟨b, 0, none⟩) WD WD) /\ Below w.heap.size w w' := by
 have l0 := World.block_lt_of_cell? _ _ h0
 have l1 := World.block_lt_of_cell? _ _ h1
 have htI : (t : Int) < (n : Int) := by omega
 go_enter func154, ntmps154
 go_wp2_with fail
 go_ret
 exact ⟨rfl, Below.refl _ _⟩
def clsB (C : Nat -> Int) (L : List Nat) (x : Nat) : Bool := L.any (fun t => decide (C t = (x : Int)))
theorem v2m (C : Nat -> Int) : clsB C [] = fun _ => false := rfl
theorem x2m (C : Nat -> Int) (L : List Nat) {t k : Nat} (h : C t = (k : Int)) : clsB C (L ++ [t]) = putF (clsB C L) k := by
 funext x
 unfold clsB putF
 rw [List.any_append]
 simp only [List.any_cons, List.any_nil, Bool.or_false]
 congr 1
 rw [h]
 by_cases e : x = k
 · subst e; simp
 · have : ¬ (k : Int) = (x : Int) := by omega
   simp [this, e]
set_option maxHeartbeats 16000000 in
theorem next_any {w : World} {xb gb sb n lb : Nat} {s : Lts} {F : Nat -> Nat -> Bool} (hX : StepsAt w xb gb sb n s F) (hlb : s.lb = (lb : Int)) (hT : Tab w) {C : Nat -> Int} (hcan : canon (fl n C) = fl n C) {ca : Option Addr} {cb co cc : Nat} (hC : SlAt encI 1 w ca cb co (fl n C)) :
    Calls prog 127 #[.pointer (some ⟨xb, 0, none⟩), .slice ca n cc] w fun e w' => ∃ (nb : Nat) (D : Nat -> Int), e = .returned (.slice (some ⟨nb, 0, none⟩) n n) /\ w'.rowIs nb 3 n (fun i => .int .i64 (D i)) /\ NextS (wst s) n C D /\ canon (fl n D) = fl n D /\ w.heap.size <= nb /\ Below w.heap.size w w' := by
 have hst := hX.right.st0
 have hn1 : n <= 1000 := by have := hX.st; omega
 obtain ⟨many, hmany⟩ : ∃ many, many = (dist (fl n C)).length := ⟨_, rfl⟩
 have hmn : many <= n := by rw [hmany]; exact y0r n C
 have hCr : ∀ p, p < n -> ∃ k : Nat, C p = (k : Int) /\ k < many := fun p hp => by (
 have h1 := q0g (f := C) hp
 have h2 : clf n C p = C p := x2e (by rw [<- p0p, hcan]) hp
 obtain ⟨k, hk⟩ := Int.eq_ofNat_of_zero_le h1.1
 exact ⟨k, by rw [<- h2, hk], by rw [hmany]; omega⟩)
 have hwf : ∀ x ∈ fl n C, (Lit.int .i64 x).wf = true := fun x hx => by (
 obtain ⟨j, hj, rfl⟩ := List.mem_map.1 hx
 obtain ⟨k, hk, hkm⟩ := hCr j (l8.1 hj)
 exact WalkArith.wf_i64 (by omega))
 have hto := y0v (c := cc) hC (by rw [j0v]; omega) hwf
 rw [j0v, <- hmany] at hto
 have hmk := run_make_row' (P := prog) 120 124 (.slice none 0 0) 24 underlying120 (by kernel_rfl) rfl .i64 .i64 n (by omega) (by omega)
 have hmk2 := run_make_row' (P := prog) 50 3 (.int .i64 0) 8 underlying50 (by kernel_rfl) rfl .i64 .i64 n (by omega) (by omega)
 have hmm := @run_makeMap prog
 have hwm := p0g (show many <= 1000 by omega)
 obtain ⟨WD, hWD⟩ : ∃ WD, WD = wds many := ⟨_, rfl⟩
 rw [<- hWD] at hwm
 have HX := hid hX; have HLB := hid hlb; have HT := hid hT; have HCA := hid hcan; have HC := hid hC; have HCR := hid hCr; have HTO := hid hto; have HWD := hid hWD
 have KX : Hid (∀ V, Below w.heap.size w V -> V.cell? ⟨xb, 0, none⟩ = some (.pointer (some ⟨gb, 0, none⟩)) /\ V.cell? ⟨xb, 1, none⟩ = some (.slice (some ⟨sb, 0, none⟩) n n) /\ xb < V.heap.size) := hid (fun V hV => (hX.call hV).cells)
 clear hX hlb hT hcan hC hCr hwf hto hWD hst hmany
 go_enter func127, ntmps127
 go_wp2_with fail
 refine HTO.out.mono ?_
 rintro e w1 ⟨rfl, hB1⟩
 have HB1 := hid hB1
 clear hB1 HTO
 obtain ⟨G, hGe⟩ : ∃ G : Nat -> Nat -> Bool, G = fun p => clsB C (idsN (F p) n) := ⟨_, rfl⟩
 have HGE := hid hGe
 have HE0 : Hid (EndT ((w1.alloc (.cells (madeCells #[.slice none 0 0] n) 124)).alloc (.cells #[.slice (some ⟨w1.heap.size, 0, none⟩) n n] 120)) (w1.heap.size + 2) w1.heap.size n WD G 0 (.slice none 0 0)) := hid (((EndT.made w1 n WD G).call ((Below.refl _ _).alloc (l3 _) _)).mono (by omega))
 have hbx := heap_alloc_new (w1.alloc (.cells (madeCells #[.slice none 0 0] n) 124)) (.cells #[.slice (some ⟨w1.heap.size, 0, none⟩) n n] 120)
 rw [show (w1.alloc (.cells (madeCells #[.slice none 0 0] n) 124)).heap.size = w1.heap.size + 1 by simp] at hbx
 have HBX := hid hbx
 have HB2 := hid ((HB1.out.alloc HB1.out.size (.cells (madeCells #[.slice none 0 0] n) 124)).alloc (by have := HB1.out.size; simp; omega) (.cells #[.slice (some ⟨w1.heap.size, 0, none⟩) n n] 120))
 have hTB := HB1.out.size
 clear hGe hbx HB1
 go_wp2_with fail
 obtain ⟨tb, htb⟩ : ∃ tb, tb = w1.heap.size := ⟨_, rfl⟩
 obtain ⟨eb, heb⟩ : ∃ eb, eb = w1.heap.size + 1 := ⟨_, rfl⟩
 have hsz : ((w1.alloc (.cells (madeCells #[.slice none 0 0] n) 124)).alloc (.cells #[.slice (some ⟨tb, 0, none⟩) n n] 120)).heap.size = w1.heap.size + 2 := by simp
 rw [<- htb] at HE0 HBX HB2 hTB ⊢
 rw [<- htb] at hsz heb
 rw [<- heb] at HBX ⊢
 have HSZ := hid hsz
 have htbe : tb ≠ eb := by omega
 have hTE : w.heap.size <= eb := by omega
 clear htb heb hsz
 go_loopw [7, 9, 26] (fun _ _ v26 wr => ∃ i : Nat, v26 = .int .i64 i /\ i <= n /\ EndT wr wr.heap.size tb n WD G i (.slice none 0 0) /\ wr.heap[eb]? = some (.cells #[.slice (some ⟨tb, 0, none⟩) n n] 120 (0, 0)) /\ Below w.heap.size w wr) (fun _ _ v26 _ => n - (intOf v26).toNat)
 case atStart => exact ⟨0, rfl, l6 _, by rw [HSZ.out]; exact HE0.out, HBX.out, HB2.out⟩
 case round => (
 obtain ⟨i, rfl, hi, hend, hbox, hB⟩ := hrel
 have HEN := hid hend; have HBO := hid hbox; have HB := hid hB
 have hws := hB.size
 have hel := (l2.1 hbox).1
 have htl := hend.tlt
 clear hend hbox hB HE0 HBX HB2 HSZ
 by_cases hin : i < n
 · (
 have hiI : (i : Int) < (n : Int) := by omega
 have HNR := hid (p0u wr.drew (n := many) (by omega))
 rw [<- HWD.out, show wr.drew.heap.size = wr.heap.size from rfl] at HNR
 have HBD := hid (Below.refl wr.heap.size wr).drew
 have KEEP3 : Hid (∀ V, Below wr.heap.size wr.drew V -> Below wr.heap.size wr V /\ V.cell? ⟨tb, i, none⟩ = some (.slice none 0 0) /\ V.frozen? ⟨tb, i, none⟩ = false /\ tb < V.heap.size /\ V.cell? ⟨eb, 0, none⟩ = some (.slice (some ⟨tb, 0, none⟩) n n) /\ eb < V.heap.size) := hid (fun V hV => by (
 have h1 := HBD.out.trans hV
 have h2 := HEN.out.call h1
 have h3 := (h1.block eb hel).trans HBO.out
 exact ⟨h1, h2.here hin, h2.frozen i, h2.tlt, by simp [World.cell?, h3], (l2.1 h3).1⟩))
 have KEEPS : Hid (∀ (V : World) (v : Value), (V.cell? ⟨eb, 0, none⟩ = some (.slice (some ⟨tb, 0, none⟩) n n) /\ eb < V.heap.size) -> ((V.setCell ⟨tb, i, none⟩ v).cell? ⟨eb, 0, none⟩ = some (.slice (some ⟨tb, 0, none⟩) n n) /\ eb < (V.setCell ⟨tb, i, none⟩ v).heap.size)) := hid (fun V v h => by
   rw [size_setCell, World.cell?_of_block (w := V) (a := ⟨eb, 0, none⟩) (Below.heap_setCell _ _ _ _ (by show eb ≠ tb; omega))]
   exact h)
 go_upto_region 6 with fail
 refine wp_region_held_drew (S := (fun V => V.cell? ⟨eb, 0, none⟩ = some (.slice (some ⟨tb, 0, none⟩) n n) /\ eb < V.heap.size)) (by kernel_rfl) (by (try dsimp only); exact (KEEP3.out _ (Below.refl _ _)).2.2.2.2) (fun hHeld => ?_)
 refine qT 0 (v := ?_) ?_ ?_
 rotate_left
 · intro w hSw; (try dsimp only at hSw); go_simp; try with_reducible rfl
 try simp only [qga, qgz, Act.put, qgt, qgx, qgy]
 refine qT 1 (v := ?_) ?_ ?_
 rotate_left
 · intro w hSw; (try dsimp only at hSw); go_simp; try with_reducible rfl
 try simp only [qga, qgz, qgs, Act.put, qgt, qgx, qgy]
 refine qT 2 (v := ?_) ?_ ?_
 rotate_left
 · intro w hSw; (try dsimp only at hSw); go_simp; try with_reducible rfl
 try simp only [qga, qgz, qgs, Act.put, qgt, qgx, qgy]
 refine wpAnyH_ready (rs := [3]) (by kernel_rfl) (by simp) ?_
 refine AllReadyH.cons rfl (fun K hK => ?_) AllReadyH.nil
 go_simp
 go_at_call 133
 refine HNR.out.mono ?_
 rintro e V ⟨rfl, hnr, hB4, hs4⟩
 obtain ⟨hbv, v0, v1, v2, hS4⟩ := KEEP3.out V hB4
 refine hK.out _ _ (by (try dsimp only); exact hS4) (fun hHeld => ?_)
 clear hK K
 try simp only [qga, qgz, qgs, Act.put, qgt, qgx, qgy]
 refine qT 4 (v := ?_) ?_ ?_
 rotate_left
 · intro w hSw; (try dsimp only at hSw); go_simp; try with_reducible rfl
 try simp only [qga, qgz, qgs, Act.put, qgt, qgx, qgy]
 refine wpAnyH_ready (rs := [5]) (by kernel_rfl) (by simp) ?_
 refine AllReadyH.cons rfl (fun K hK => ?_) AllReadyH.nil
 go_simp
 refine hK.out _ _ (by (try dsimp only); exact KEEPS.out V _ hS4) (fun hHeld => ?_)
 clear hK K
 try simp only [qga, qgz, qgs, Act.put, qgt, qgx, qgy]
 refine wpAnyH_done (by kernel_rfl) ?_ _
 obtain ⟨rb, hrb⟩ : ∃ rb, rb = wr.heap.size := ⟨_, rfl⟩
 have hen3 := (HEN.out.call hbv).open (.slice (some ⟨rb, 0, none⟩) WD WD)
 have hrow3 : BitRow (V.setCell ⟨tb, i, none⟩ (.slice (some ⟨rb, 0, none⟩) WD WD)) rb WD (clsB C []) := by rw [v2m, hrb]; exact hnr.of_block (Below.heap_setCell _ _ _ _ (by show wr.heap.size ≠ tb; omega))
 have hbo3 : (V.setCell ⟨tb, i, none⟩ (.slice (some ⟨rb, 0, none⟩) WD WD)).heap[eb]? = some (.cells #[.slice (some ⟨tb, 0, none⟩) n n] 120 (0, 0)) := by rw [Below.heap_setCell _ _ _ _ (by show eb ≠ tb; omega)]; exact (hbv.block eb hel).trans HBO.out
 have hb3 : Below w.heap.size w (V.setCell ⟨tb, i, none⟩ (.slice (some ⟨rb, 0, none⟩) WD WD)) := (HB.out.trans (hbv.mono hws)).setCell hTB _
 rw [<- hrb]
 obtain ⟨W3, hW3⟩ : ∃ W3, W3 = V.setCell ⟨tb, i, none⟩ (.slice (some ⟨rb, 0, none⟩) WD WD) := ⟨_, rfl⟩
 rw [<- hW3] at hen3 hrow3 hbo3 hb3 ⊢
 rw [<- hrb] at hen3
 have hrtb : tb < rb := by omega
 have hreb : eb < rb := by omega
 have hwrb : w.heap.size <= rb := by omega
 have HE3 := hid hen3; have HR3 := hid hrow3; have HO3 := hid hbo3; have HB3 := hid hb3
 obtain ⟨x0, x1, x2⟩ := KX.out _ hb3
 have hx3 := HX.out.call hb3
 obtain ⟨lk, hlk, hlkl, hbitr⟩ := hx3.sil.at hin (l8.2 hin)
 have hsbl := hx3.sil.sblt
 have HFR : Hid (∀ x, F i x = true -> x < n) := hid (fun x hx => ((HX.out.tr i hin x).1 hx).ltW HX.out.right HX.out.st hin)
 have hids := z0i hbitr (by have := p0g hn1; omega) (HT.out.below hb3)
 unfold IdsW at hids
 rw [z0j HFR.out] at hids
 have HID := hid hids
 clear hW3 hrb hen3 hrow3 hbo3 hb3 hnr hB4 hs4 hbv v0 v1 v2 hS4 HNR HBD KEEP3 KEEPS HEN HBO HB hx3 hbitr hids
 go_wp2_with fail
 refine HID.out.mono ?_
 rintro e wq ⟨v, rfl, hown, hBq⟩
 obtain ⟨L, hL⟩ : ∃ L, L = idsN (F i) n := ⟨_, rfl⟩
 rw [<- hL] at hown
 obtain ⟨la, lc, lb2, rfl, _, _, hls, hlb2⟩ := j0d p0v hown
 rw [j0p]
 have hLl : L.length <= n := by rw [hL]; exact p0q _ _
 have HLM : Hid (∀ m, m ∈ L -> m < n) := hid (fun m hm => by rw [hL] at hm; exact (q0e.1 hm).1)
 have HLE := hid hL
 have hr3 := HR3.out.lt
 have HEQ := hid (HE3.out.call hBq); have HRQ := hid (HR3.out.below hBq)
 have HOQ := hid ((hBq.block eb (l2.1 HO3.out).1).trans HO3.out)
 have HBQ := hid (HB3.out.trans (hBq.mono HB3.out.size))
 have HLS := hid hls
 have HLB2 : Hid (0 < L.length -> lb2 ≠ rb) := hid (fun h => by have h1 := hlb2 (by rw [j0p]; exact h); omega)
 obtain ⟨ml, hml⟩ : ∃ ml, ml = L.length := ⟨_, rfl⟩
 rw [<- hml] at hLl ⊢
 have HML := hid hml
 clear hown hBq hls hlb2 hL hml HID x0 x1 x2 hlk hlkl hsbl HE3 HR3 HO3 HB3
 go_wp2_with fail
 go_loopw [9, 43] (fun _ v43 wx => ∃ r : Nat, v43 = .int .i64 r /\ r <= ml /\ BitRow wx rb WD (clsB C (L.take r)) /\ EndT wx rb tb n WD G i (.slice (some ⟨rb, 0, none⟩) WD WD) /\ wx.heap[eb]? = some (.cells #[.slice (some ⟨tb, 0, none⟩) n n] 120 (0, 0)) /\ SlAt encI 1 wx la lb2 0 (intsOf L) /\ Below w.heap.size w wx) (fun _ v43 _ => ml - (intOf v43).toNat)
 case atStart => exact ⟨0, rfl, l6 _, HRQ.out, HEQ.out, HOQ.out, HLS.out, HBQ.out⟩
 case round => (
 obtain ⟨r, rfl, hr, hrow, hend, hbox, hls, hBx⟩ := hrel
 have HRO := hid hrow; have HEN := hid hend; have HBO := hid hbox; have HLS := hid hls; have HBX := hid hBx
 clear hrow hend hbox hls hBx HRQ HEQ HOQ HBQ
 by_cases hro : r < ml
 · (
 obtain ⟨t, ht⟩ := j0a (xs := L) (i := r) (by rw [<- HML.out]; exact hro)
 have htn := HLM.out t (List.mem_of_getElem? ht)
 obtain rfl := HLS.out.ad (by rw [j0p, <- HML.out]; omega)
 have l0 := HLS.out.ci (i := r) (x := (t : Int)) (by unfold intsOf; rw [List.getElem?_map, ht]; rfl)
 simp only [Nat.zero_add] at l0
 have ll := HLS.out.lt (by rw [j0p, <- HML.out]; omega)
 have HLBR := HLB2.out (by rw [<- HML.out]; omega)
 obtain ⟨k, hk, hkm⟩ := HCR.out t htn
 have HSN : Hid (clsB C (L.take (r + 1)) = putF (clsB C (L.take r)) k) := hid (by rw [take_snoc ht, x2m C _ hk])
 have hcs := HC.out.below HBX.out (l3 _)
 obtain rfl := hcs.ad (by rw [j0v]; omega)
 have HCK : Hid (∀ V, Below w.heap.size w V -> V.cell? ⟨cb, co + t, none⟩ = some (.int .i64 (k : Int)) /\ cb < V.heap.size) := hid (fun V hV => by (
 have h1 := HC.out.below hV (l3 _)
 have h2 := h1.ci (j0t C htn)
 rw [hk] at h2
 exact ⟨h2, h1.lt (by rw [j0v]; omega)⟩))
 have hrI : (r : Int) < (ml : Int) := by omega
 have htI : (t : Int) < (n : Int) := by omega
 have hdr := (Below.refl wr.heap.size wr).drew
 have KEEP : Hid (∀ V, Below wr.heap.size wr V -> V.cell? ⟨eb, 0, none⟩ = some (.slice (some ⟨tb, 0, none⟩) n n) /\ eb < V.heap.size /\ V.cell? ⟨tb, i, none⟩ = some (.slice (some ⟨rb, 0, none⟩) WD WD) /\ tb < V.heap.size /\ V.cell? ⟨cb, co + t, none⟩ = some (.int .i64 (k : Int)) /\ cb < V.heap.size) := hid (fun V hV => by (
 have h1 := (hV.block eb (l2.1 HBO.out).1).trans HBO.out
 have h2 := HEN.out.call hV
 have h3 := HCK.out V (HBX.out.trans (hV.mono HBX.out.size))
 exact ⟨by simp [World.cell?, h1], (l2.1 h1).1, h2.here hin, h2.tlt, h3.1, h3.2⟩))
 have HPU : Hid (Calls prog 153 #[.slice (some ⟨rb, 0, none⟩) WD WD, .int .i64 k] wr.drew fun e w' => e = .returned (.tuple #[]) /\ BitRow w' rb WD (clsB C (L.take (r + 1))) /\ EndT w' rb tb n WD G i (.slice (some ⟨rb, 0, none⟩) WD WD) /\ w'.heap[eb]? = some (.cells #[.slice (some ⟨tb, 0, none⟩) n n] 120 (0, 0)) /\ SlAt encI 1 w' (some ⟨lb2, 0, none⟩) lb2 0 (intsOf L) /\ Below w.heap.size w w' /\ (w'.cell? ⟨eb, 0, none⟩ = some (.slice (some ⟨tb, 0, none⟩) n n) /\ eb < w'.heap.size /\ w'.cell? ⟨tb, i, none⟩ = some (.slice (some ⟨rb, 0, none⟩) WD WD) /\ tb < w'.heap.size /\ w'.cell? ⟨cb, co + t, none⟩ = some (.int .i64 (k : Int)) /\ cb < w'.heap.size)) := hid (by (
 refine (z0y (HRO.out.of_block (w' := wr.drew) rfl) (by rw [HWD.out]; exact k2q hkm) (by omega)).mono ?_
 rintro e w' ⟨rfl, h1, h2⟩
 have hdr := (Below.refl wr.heap.size wr).drew
 have h3 := (HEN.out.call hdr).chg h2 (l3 _)
 have h4 : w'.heap[eb]? = some (.cells #[.slice (some ⟨tb, 0, none⟩) n n] 120 (0, 0)) := (h2.oth eb (by omega) (l2.1 HBO.out).1).trans HBO.out
 have h5 : SlAt encI 1 w' (some ⟨lb2, 0, none⟩) lb2 0 (intsOf L) := ⟨HLS.out.ad, fun hp => by rw [h2.size]; exact HLS.out.lt hp, fun i2 x hx j2 u2 hu2 => by
   rw [World.cell?_of_block (w := wr.drew) (a := ⟨lb2, 0 + i2 * 1 + j2, none⟩) (h2.oth lb2 HLBR ll)]
   exact HLS.out.cell i2 x hx j2 u2 hu2⟩
 have h6 : Below w.heap.size w w' := (HBX.out.drew).trans (h2.bel _ hwrb)
 have h7 := HCK.out _ h6
 exact ⟨rfl, by rw [HSN.out]; exact h1, h3, h4, h5, h6, by simp [World.cell?, h4], (l2.1 h4).1, h3.here hin, h3.tlt, h7.1, h7.2⟩))
 clear ht hcs hk
 go_upto_region 10 with fail
 refine wp_region_held_drew (S := (fun V => V.cell? ⟨eb, 0, none⟩ = some (.slice (some ⟨tb, 0, none⟩) n n) /\ eb < V.heap.size /\ V.cell? ⟨tb, i, none⟩ = some (.slice (some ⟨rb, 0, none⟩) WD WD) /\ tb < V.heap.size /\ V.cell? ⟨cb, co + t, none⟩ = some (.int .i64 (k : Int)) /\ cb < V.heap.size)) (by kernel_rfl) (by (try dsimp only); exact KEEP.out _ hdr) (fun hHeld => ?_)
 refine qT 0 (v := ?_) ?_ ?_
 rotate_left
 · intro w hSw; (try dsimp only at hSw); go_simp; try with_reducible rfl
 try simp only [qga, qgz, Act.put, qgt, qgx, qgy]
 refine qT 1 (v := ?_) ?_ ?_
 rotate_left
 · intro w hSw; (try dsimp only at hSw); go_simp; try with_reducible rfl
 try simp only [qga, qgz, qgs, Act.put, qgt, qgx, qgy]
 refine qT 2 (v := ?_) ?_ ?_
 rotate_left
 · intro w hSw; (try dsimp only at hSw); go_simp; try with_reducible rfl
 try simp only [qga, qgz, qgs, Act.put, qgt, qgx, qgy]
 refine qT 3 (v := ?_) ?_ ?_
 rotate_left
 · intro w hSw; (try dsimp only at hSw); go_simp; try with_reducible rfl
 try simp only [qga, qgz, qgs, Act.put, qgt, qgx, qgy]
 refine qT 4 (v := ?_) ?_ ?_
 rotate_left
 · intro w hSw; (try dsimp only at hSw); go_simp; try with_reducible rfl
 try simp only [qga, qgz, qgs, Act.put, qgt, qgx, qgy]
 refine qT 5 (v := ?_) ?_ ?_
 rotate_left
 · intro w hSw; (try dsimp only at hSw); go_simp; try with_reducible rfl
 try simp only [qga, qgz, qgs, Act.put, qgt, qgx, qgy]
 refine qT 6 (v := ?_) ?_ ?_
 rotate_left
 · intro w hSw; (try dsimp only at hSw); go_simp; try with_reducible rfl
 try simp only [qga, qgz, qgs, Act.put, qgt, qgx, qgy]
 refine qT 7 (v := ?_) ?_ ?_
 rotate_left
 · intro w hSw; (try dsimp only at hSw); go_simp; try with_reducible rfl
 try simp only [qga, qgz, qgs, Act.put, qgt, qgx, qgy]
 refine wpAnyH_ready (rs := [8]) (by kernel_rfl) (by simp) ?_
 refine AllReadyH.cons rfl (fun K hK => ?_) AllReadyH.nil
 go_simp
 go_at_call 153
 refine HPU.out.mono ?_
 rintro e V2 ⟨rfl, hrow2, hend2, hbox2, hls2, hbel2, hS2⟩
 refine hK.out _ _ (by (try dsimp only); exact hS2) (fun hHeld => ?_)
 clear hK K
 try simp only [qga, qgz, qgs, Act.put, qgt, qgx, qgy]
 refine wpAnyH_done (by kernel_rfl) ?_ _
 have HR9 := hid hrow2; have HE9 := hid hend2; have HO9 := hid hbox2; have HL9 := hid hls2; have HB9 := hid hbel2
 clear hrow2 hend2 hbox2 hls2 hbel2 hS2 HPU KEEP HCK hdr HRO HEN HBO HLS HBX l0 ll HLBR
 go_wp2_with fail
 go_roundw
 case rel => exact ⟨r + 1, by go_num, by omega, HR9.out, HE9.out, HO9.out, HL9.out, HB9.out⟩
 case measure => simp [intOf]; omega)
 · (
 obtain rfl : r = ml := by omega
 have hrow := HRO.out
 rw [HML.out, List.take_length, HLE.out] at hrow
 have hcl := HEN.out.close (hi' := wr.heap.size) (by rw [HGE.out]; exact hrow) (by omega) (Nat.le_of_lt HRO.out.lt) HRO.out.lt
 have HCL := hid hcl
 clear hrow hcl HRO HEN HLS
 go_wp2_with fail
 go_roundw
 case rel => exact ⟨i + 1, by go_num, by omega, HCL.out, HBO.out, HBX.out⟩
 case measure => simp [intOf]; omega)))
 · (
 obtain rfl : n = i := by omega
 obtain ⟨W, hW⟩ : ∃ W, W = wr := ⟨_, rfl⟩
 subst hW
 have hq1 := (Below.refl W.heap.size W).alloc (l3 _) (.map #[] 0)
 have hq2 := hq1.alloc (by simp) (.cells (madeCells #[.int .i64 0] n) 3)
 have hsz2 : (((W.alloc (.map #[] 0)).alloc (.cells (madeCells #[.int .i64 0] n) 3))).heap.size = W.heap.size + 2 := by simp
 have hom := (OMap.made (enck := encTx) (ok := okTx) (encv := encNv) W).of_block (((Below.refl _ _).alloc (l3 _) (.cells (madeCells #[.int .i64 0] n) 3)).block W.heap.size (by simp))
 have hnx := World.rowIs_made (W.alloc (.map #[] 0)) (.int .i64 0) n 3
 rw [show (W.alloc (.map #[] 0)).heap.size = W.heap.size + 1 by simp] at hnx
 have hb5 := HB.out.trans (hq2.mono hws)
 have hend5 := HEN.out.call hq2
 have hbox5 := (hq2.block eb hel).trans HBO.out
 obtain ⟨W5, hW5⟩ : ∃ W5, W5 = ((W.alloc (.map #[] 0)).alloc (.cells (madeCells #[.int .i64 0] n) 3)) := ⟨_, rfl⟩
 rw [<- hW5] at hq2 hsz2 hom hnx hb5 hend5 hbox5
 obtain ⟨bk, hbk, hbits⟩ := hend5.ex
 have heb5 := (l2.1 hbox5).1
 have hena : EndAt W5 n (wds many) 154 (.pointer (some ⟨eb, 0, none⟩)) G bk := by (
 rw [<- HWD.out]
 refine ⟨fun t ht => (hbits t ht).2.2, fun V hV t ht => j2m (tb := tb) (by have h := (hV.block eb heb5).trans hbox5; simp [World.cell?, h]) ?_ ht⟩
 have h := (hbk.of_block (hV.block tb hbk.lt)).cell ht
 rw [if_pos ht] at h
 exact h)
 have HENDS := hid (u1f (HX.out.call hb5) HLB.out (show many <= 1000 by omega) (enters_of func154 (by kernel_rfl) rfl) hena (HT.out.below hb5))
 rw [<- HWD.out] at HENDS
 have HSZ2 := hid hsz2; have HOM0 := hid hom; have HNX0 := hid hnx; have HB5 := hid hb5; have HWE := hid hW5
 clear hq1 hq2 hsz2 hom hnx hb5 hend5 hbox5 hbk hbits heb5 hena hW5
 go_wp2_with fail
 rw [<- HWE.out]
 refine HENDS.out.mono ?_
 rintro e w3 ⟨tb3, R, rfl, htab, htlo, hB3, hR⟩
 have hom3 := HOM0.out.of_block (hB3.block W.heap.size (by rw [HSZ2.out]; omega))
 have hnx3 := HNX0.out.of_block (hB3.block (W.heap.size + 1) (by rw [HSZ2.out]; omega))
 have hb3 := HB5.out.trans (hB3.mono HB5.out.size)
 have hs3 := hB3.size
 rw [HSZ2.out] at hs3 htlo
 obtain ⟨key, hkey⟩ : ∃ key : Nat -> List UInt8, key = fun p => wkey WD (C p).toNat lb (R p) := ⟨_, rfl⟩
 obtain ⟨Gc, hGc⟩ : ∃ Gc, Gc = cdW n key := ⟨_, rfl⟩
 obtain ⟨T, hT⟩ : ∃ T, T = txtW n key := ⟨_, rfl⟩
 obtain ⟨L, hL⟩ : ∃ L, L = fl n Gc := ⟨_, rfl⟩
 have HLL : Hid (L.length = n) := hid (by rw [hL, j0v])
 have HGT : Hid (∀ p, p < n -> key p ∈ T /\ codeT T (key p) = Gc p) := hid (fun p hp => by rw [hT, hGc]; exact ⟨j1q hp, rfl⟩)
 have HLG : Hid (∀ p, p < n -> L[p]? = some (Gc p)) := hid (fun p hp => by rw [hL]; exact j0t Gc hp)
 have HNS : Hid (NextS (wst s) n C (clf n Gc)) := hid (by (
 refine k2p (W := WD) HX.out.right HX.out.st HLB.out (fun p hp => ?_) (G := G) (fun t x ht => ?_) hR (fun p q hp hq => ?_)
 · obtain ⟨k, hk, hkm⟩ := HCR.out p hp
   have := u2d many
   rw [hk, HWD.out]
   omega
 · (
 rw [HGE.out]
 constructor
 · intro h
   obtain ⟨q, hq, h2⟩ := l7.1 h
   obtain ⟨h3, h4⟩ := q0e.1 hq
   exact ⟨q, (HX.out.tr t ht q).1 h4, by simpa using h2⟩
 · rintro ⟨q, hq, h2⟩
   refine l7.2 ⟨q, q0e.2 ⟨hq.ltW HX.out.right HX.out.st ht, (HX.out.tr t ht q).2 hq⟩, by simpa using h2⟩)
 · rw [x2n hp hq, hGc, p3i hp hq, hkey]))
 have HLE := hid hL
 have HKE := hid hkey
 have HOM2 : Hid (OMap w3 W.heap.size encTx okTx encNv (numT T (dist (L.take 0))) (dist (L.take 0)).length) := hid (by
   have h := hom3.congr (g := numT T []) (fun z => (z2i T z).symm)
   simpa [dist] using h)
 have HNX2 : Hid (w3.rowIs (W.heap.size + 1) 3 n (rowAtK L 0)) := hid (hnx3.congr (fun i _ => by unfold rowAtK; simp))
 have HB3 := hid hb3
 obtain ⟨ab, hab⟩ : ∃ ab, ab = W.heap.size := ⟨_, rfl⟩
 obtain ⟨nb, hnb⟩ : ∃ nb, nb = W.heap.size + 1 := ⟨_, rfl⟩
 obtain ⟨hi3, hhi⟩ : ∃ hi3, hi3 = w3.heap.size := ⟨_, rfl⟩
 have hablo : w.heap.size <= ab := by omega
 have hnblo : w.heap.size <= nb := by omega
 have hanb : ab ≠ nb := by omega
 have hahi : ab < hi3 := by omega
 have hnhi : nb < hi3 := by omega
 have hthi := htab.tlt
 rw [<- hhi] at htab hthi
 rw [<- hab] at HOM2; rw [<- hnb] at HNX2
 have HTA := hid htab; have HABE := hid hab; have HNBE := hid hnb; have HHI := hid hhi
 clear hab hnb hhi hom3 hnx3 hb3 hs3 htlo hkey hGc hT hL htab hR hB3 HOM0 HNX0 HENDS HEN HBO HSZ2 HB
 go_wp2_with fail
 rw [<- HNBE.out, <- HABE.out]
 clear HNBE HABE HWE
 go_loopw [12, 13, 14, 15, 16, 17, 18, 67] (fun _ _ _ _ _ _ _ v67 wx => ∃ i : Nat, v67 = .int .i64 i /\ i <= n /\ OMap wx ab encTx okTx encNv (numT T (dist (L.take i))) (dist (L.take i)).length /\ wx.rowIs nb 3 n (rowAtK L i) /\ WkT wx hi3 tb3 n lb WD n (.slice none 0 0) R /\ hi3 <= wx.heap.size /\ Below w.heap.size w wx) (fun _ _ _ _ _ _ _ v67 _ => n - (intOf v67).toNat)
 case atStart => exact ⟨0, rfl, l6 _, HOM2.out, HNX2.out, HTA.out, by rw [HHI.out]; exact l3 _, HB3.out⟩
 case round => (
 obtain ⟨i, rfl, hi, hom, hnx, htab, hhx, hBx⟩ := hrel
 have HOM := hid hom; have HNX := hid hnx; have HTX := hid htab; have HBX := hid hBx
 have hml := hom.lt
 have hnl := hnx.lt
 clear hom hnx htab hBx HOM2 HNX2 HTA HB3 HHI
 by_cases him : i < n
 · (
 obtain ⟨rb, hrb, hwr⟩ := HTX.out.at him him
 have hcs0 := HC.out.below HBX.out (l3 _)
 obtain rfl := hcs0.ad (by rw [j0v]; omega)
 have hcs := hcs0.ci (j0t C him)
 have hcbl := hcs0.lt (by rw [j0v]; omega)
 obtain ⟨k, hk, hkm⟩ := HCR.out i him
 rw [hk] at hcs
 have htl := HTX.out.tlt
 have hiI : (i : Int) < (n : Int) := by omega
 have hlb1 : lb <= 201 := by have := HX.out.right.st0; have := HLB.out; omega
 obtain ⟨Ri, hRi⟩ : ∃ Ri, Ri = R i := ⟨_, rfl⟩
 rw [<- hRi] at hwr
 have HKY : Hid (key i = wkey WD k lb Ri) := hid (by rw [HKE.out, hRi]; show wkey WD (C i).toNat lb (R i) = _; rw [hk]; rfl)
 obtain ⟨O0, hO0⟩ : ∃ O0 : Obj, O0 = .cells #[.pointer none, .slice none 0 0] 206 (0, 0) := ⟨_, rfl⟩
 obtain ⟨w4, hw4⟩ : ∃ w4, w4 = wr.alloc (.cells #[.pointer none, .slice none 0 0] 206) := ⟨_, rfl⟩
 have hb4 : Below wr.heap.size wr w4 := by rw [hw4]; exact (Below.refl _ _).alloc (l3 _) _
 have hs4 : w4.heap.size = wr.heap.size + 1 := by rw [hw4]; simp
 have hbl4 : w4.heap[wr.heap.size]? = some (.cells #[.pointer none, .slice none 0 0] 206 (0, 0)) := by rw [hw4]; exact heap_alloc_new wr _
 have hnr := q1o w4 (n := many) (i := k) (by omega) hkm
 rw [<- HWD.out, hs4] at hnr
 have HNR := hid hnr
 have HWR := hid hwr; have HB4 := hid hb4; have HS4 := hid hs4; have HBL4 := hid hbl4; have HW4 := hid hw4
 have hhiI : hi3 <= wr.heap.size := hhx
 clear hk hRi hO0 hwr hb4 hs4 hbl4 hnr hw4 hcs0
 go_wp2_with fail
 rw [<- HW4.out]
 refine HNR.out.mono ?_
 rintro e w5 ⟨rfl, hrow5, hB5, hs5⟩
 rw [<- HS4.out] at hB5
 have hlo5 : w5.heap.size = wr.heap.size + 2 := by rw [hs5]
 have hblk5 := (hB5.block wr.heap.size (by rw [HS4.out]; omega)).trans HBL4.out
 have hbd5 : BldAt w5 wr.heap.size (wr.heap.size + 2) [] := ⟨by omega, .pointer none, .slice none 0 0, Or.inl rfl, hblk5, World.ownsRow_nil _ _ _ _⟩
 have hbw5 : Below wr.heap.size wr w5 := HB4.out.trans (hB5.mono (by rw [HS4.out]; omega))
 obtain ⟨b, hb⟩ : ∃ b, b = wr.heap.size := ⟨_, rfl⟩
 obtain ⟨lo, hlo⟩ : ∃ lo, lo = wr.heap.size + 2 := ⟨_, rfl⟩
 have hkk : (fun x => decide (x = k)) = (fun x => decide (x = k)) := rfl
 have htx := p1o hbd5 (by omega) hrow5 (by omega) (by omega) (by omega) (by simp)
 rw [<- hlo, <- hb] at htx
 have HTW := hid htx
 have hbw5b : Below b wr w5 := by rw [hb]; exact hbw5
 have HBW5 := hid hbw5b; have HBE := hid hb; have HLO := hid hlo; have HSW5 : Hid (w5.heap.size = lo) := hid (by rw [hlo5, hlo])
 have hbhi : hi3 <= b := by omega
 have hblo : b < lo := by omega
 clear hbd5 hbw5 hbw5b hblk5 hlo5 hB5 hs5 hrow5 hkk htx HNR HB4 HS4 HBL4
 clear hlo
 go_wp2_with fail
 rw [<- HBE.out]
 refine HTW.out.mono ?_
 rintro e w6 ⟨rfl, hbd6, hbw6⟩
 obtain ⟨b0, hb0⟩ : ∃ b0, b0 = [] ++ bytesW (fun x => decide (x = k)) WD := ⟨_, rfl⟩
 rw [<- hb0] at hbd6
 have hb0l : b0.length <= 200 := by rw [hb0, List.nil_append, k0d]; omega
 have HBD6 := hid hbd6; have HBW6 := hid hbw6; have HB0 := hid hb0; have HB0L := hid hb0l
 have hs6 := hbw6.size
 have hbs := HBW5.out.size
 have hrl6 := HWR.out.lt
 clear hbd6 hbw6 hb0 hb0l HTW hrb hcs hcbl
 go_wp2_with fail
 go_loopw [15, 16, 81] (fun _ _ v81 wx => ∃ r : Nat, v81 = .int .i64 r /\ r <= lb /\ BldAt wx b lo (b0 ++ (l9 r).flatMap (keyS WD Ri)) /\ BldW w5 wx b lo) (fun _ _ v81 _ => lb - (intOf v81).toNat)
 case atStart => exact ⟨0, rfl, l6 _, by simpa using HBD6.out, HBW6.out⟩
 case round => (
 obtain ⟨r, rfl, hr, hbd, hbw⟩ := hrel
 have HBD := hid hbd; have HBW := hid hbw
 have hsx := hbw.size
 have HOB := hid (HBW5.out.trans (hbw.bel.mono (by omega)))
 clear hbd hbw HBD6 HBW6
 by_cases hrlb : r < lb
 · (
 have hwr2 := HWR.out.below (HOB.out.mono hbhi)
 obtain ⟨gb, hg0, hg1⟩ := hwr2.at hrlb
 have hrI : (r : Int) < (lb : Int) := by omega
 have hrl7 : rb < wr.heap.size := by have := hwr2.lt; omega
 have hks := q2q WD Ri r
 have hkl := q1t (r := r) (W := WD) Ri hwm (by omega)
 have HKS := hid hks; have HKL := hid hkl
 clear hks hkl hwr2
 rcases hRr : Ri r with _ | F0
 case' none =>
   have hneq := fun (w : World) => run_neq_slice_nil_any (P := prog) w 124 78 none 0 0 0 0 underlying124
   rw [hRr] at hg0
   simp only [wkV] at hg0
   have hkk : keyS WD Ri r = [] := by unfold keyS; rw [hRr]
   have HKK := hid hkk
   clear hkk hRr hg1
   go_wp2_with fail
   go_roundw
   case rel => exact ⟨r + 1, by go_num, by omega, by rw [HKS.out, HKK.out, List.append_nil]; exact HBD.out, HBW.out⟩
   case measure => simp [intOf]; omega
 case' some =>
   have hneq := fun (w : World) => run_neq_slice_nil_any (P := prog) w 124 78 (some ⟨gb, 0, none⟩) WD WD 0 0 underlying124
   rw [hRr] at hg0
   simp only [wkV] at hg0
   obtain ⟨hgr, hgl⟩ := hg1 F0 hRr
   have hkk : keyS WD Ri r = UInt8.ofNat r :: bytesW F0 WD := by unfold keyS; rw [hRr]
   have HKK := hid hkk
   have HGR := hid hgr
   have hwb := x0k HBD.out (by have := HSW5.out; omega) (by have h1 := HKL.out; have h2 := HB0L.out; rw [l5]; omega) (UInt8.ofNat r)
   rw [show (UInt8.ofNat r).toNat = r by rw [UInt8.toNat_ofNat']; omega] at hwb
   have HWB := hid hwb
   clear hkk hRr hg1 hgr hwb
   go_wp2_with fail
   rw [<- HBE.out]
   refine HWB.out.mono ?_
   rintro e w7 ⟨rfl, hbd7, hbw7⟩
   have hgr7 : BitRow w7 gb WD F0 := HGR.out.of_block (hbw7.oth gb (by omega) (by omega) HGR.out.lt)
   have hs7 := hbw7.size
   have HTX2 := hid (p1o hbd7 (by have := HSW5.out; omega) hgr7 (by omega) (by omega) (by omega) (by have := HKL.out; have := HB0L.out; simp only [l5, List.length_cons, List.length_nil]; omega))
   have HBW7 := hid (HBW.out.trans hbw7)
   clear hbd7 hbw7 hgr7 HWB HBD HBW HGR
   go_wp2_with fail
   rw [<- HBE.out]
   refine HTX2.out.mono ?_
   rintro e w8 ⟨rfl, hbd8, hbw8⟩
   have HBD8 := hid hbd8; have HBW8 := hid (HBW7.out.trans hbw8)
   clear hbd8 hbw8 HTX2 HBW7
   go_wp2_with fail
   go_roundw
   case rel => exact ⟨r + 1, by go_num, by omega, by rw [HKS.out, HKK.out]; simpa [List.append_assoc] using HBD8.out, HBW8.out⟩
   case measure => simp [intOf]; omega)
 · (
 obtain rfl : lb = r := by omega
 have hy0 : b0 ++ (l9 lb).flatMap (keyS WD Ri) = key i := by rw [HKY.out, HB0.out]; rfl
 have hbd := HBD.out
 have hkl := q1t (r := lb) (W := WD) Ri hwm hlb1
 have hyl : (key i).length <= 30000 := by rw [<- hy0, l5]; have := HB0L.out; omega
 rw [hy0] at hbd
 have hgt := HGT.out i him
 have hlg := HLG.out i him
 obtain ⟨y, hy⟩ : ∃ y, y = key i := ⟨_, rfl⟩
 obtain ⟨x, hx⟩ : ∃ x, x = Gc i := ⟨_, rfl⟩
 rw [<- hy] at hbd hgt hyl
 rw [<- hx] at hgt hlg
 have HOKT : Hid (okTx y) := hid (by unfold okTx; omega)
 have HST := hid (u1p hbd)
 have HLG2 := hid hlg; have HYT := hid hgt.1; have HYC := hid hgt.2
 have habb : ab < b := by omega
 have hnbb : nb < b := by omega
 have hwb : w.heap.size <= b := by omega
 clear hy0 hbd hkl hyl hgt hlg hy hx HBD HBW HSW5 HLO HKY HB0 HB0L hsx
 go_wp2_with fail
 rw [<- HBE.out]
 refine HST.out.mono ?_
 rintro e w7 ⟨rfl, hbf7, hB7, hok7⟩
 have hob7 := HOB.out.trans hB7
 have hs7 := hob7.size
 have HOM7 := hid (HOM.out.of_block (hob7.block ab habb)); have HNX7 := hid (HNX.out.of_block (hob7.block nb hnbb)); have HTX7 := hid (HTX.out.below (hob7.mono hbhi)); have HBX7 := hid (HBX.out.trans (hob7.mono hwb))
 have HSF := hid (x1o hbf7 (by omega))
 have hh7 : hi3 <= w7.heap.size := by omega
 have hw7 := HBX7.out.size
 have hnl7 := HNX7.out.lt
 have hml7 := HOM7.out.lt
 have hnf := HNX7.out.frozen i
 have hnc := HNX7.out.cell him
 clear hbf7 hB7 hok7 hob7 HOM HNX HTX HBX HOB HST hs7
 by_cases hinx : x ∈ dist (L.take i)
 · (
 have HNF : Hid (numT T (dist (L.take i)) y = some ((dist (L.take i)).idxOf x : Int)) := hid (by unfold numT; rw [if_pos ⟨HYT.out, by rw [HYC.out]; exact hinx⟩, HYC.out])
 have hd : dist (L.take (i + 1)) = dist (L.take i) := by rw [take_snoc HLG2.out, k0j]; unfold addN; rw [if_pos hinx]
 have hrw := (HNX7.out.set i (.int .i64 ((dist (L.take (i + 1))).idxOf x : Int))).congr (fun j _ => q0b HLG2.out j)
 rw [hd] at hrw
 have HD2 := hid hd; have HRW2 := hid hrw
 obtain ⟨z, hz⟩ : ∃ z : Nat, z = (dist (L.take i)).idxOf x := ⟨_, rfl⟩
 rw [<- hz] at HNF HRW2
 clear hinx hd hrw hz
 go_wp2_with (at_lookup; refine q0l rfl _ _ 203 rfl x2h underlying203 (k2i _) rfl HOM7.out y HOKT.out rfl ?_; rw [HNF.out]; simp only [Option.map_some, Option.getD_some, Option.isSome_some, encNv])
 go_roundw
 case rel => exact ⟨i + 1, by go_num, by omega, by rw [HD2.out]; exact HOM7.out.of_block (Below.heap_setCell _ _ _ _ hanb), HRW2.out, HTX7.out.kept (KeepI.setCell HNX7.out i _), by rw [size_setCell]; exact hh7, HBX7.out.setCell hnblo _⟩
 case measure => simp [intOf]; omega)
 · (
 have HNF : Hid (numT T (dist (L.take i)) y = none) := hid (by unfold numT; rw [if_neg]; rintro ⟨_, h⟩; rw [HYC.out] at h; exact hinx h)
 have hd : dist (L.take (i + 1)) = dist (L.take i) ++ [x] := by rw [take_snoc HLG2.out, k0j]; unfold addN; rw [if_neg hinx]
 have hix : (dist (L.take (i + 1))).idxOf x = (dist (L.take i)).length := by rw [hd, List.idxOf_append]; simp [hinx]
 have HIX := hid hix
 have HPU : Hid (∀ z, (if z = y then some ((dist (L.take i)).length : Int) else numT T (dist (L.take i)) z) = numT T (dist (L.take (i + 1))) z) := hid (fun z => by
   rw [hd, <- HYC.out]
   exact q2e HYT.out (by rw [HYC.out]; exact hinx) z)
 have HDL2 : Hid ((dist (L.take (i + 1))).length = (dist (L.take i)).length + 1) := hid (by rw [hd]; simp)
 obtain ⟨dn, hdn⟩ : ∃ dn, dn = (dist (L.take i)).length := ⟨_, rfl⟩
 have hom5 := HOM7.out
 rw [<- hdn] at hom5 HIX HPU HDL2
 have HOM6 := hid hom5
 have hdl : dn <= 1000 := by rw [hdn]; have := u1h (L.take i); rw [List.length_take] at this; omega
 have hln := HOM6.out.len underlying203 3
 clear hinx hd hix hdn hom5 HOM7
 go_wp2_with (at_lookup; refine q0l rfl _ _ 203 rfl x2h underlying203 (k2i _) rfl HOM6.out y HOKT.out rfl ?_; rw [HNF.out]; simp only [Option.map_none, Option.getD_none, Option.isSome_none])
 rw [<- HBE.out]
 refine HSF.out.mono ?_
 rintro e w8 ⟨rfl, hbf8, hB8, hok8⟩
 have hs8 := hB8.size
 have HOM8 := hid (HOM6.out.of_block (hB8.block ab habb)); have HNX8 := hid (HNX7.out.of_block (hB8.block nb hnbb)); have HTX8 := hid (HTX7.out.below (hB8.mono hbhi)); have HBX8 := hid (HBX7.out.trans (hB8.mono hwb))
 have hh8 : hi3 <= w8.heap.size := by omega
 have hw8 := HBX8.out.size
 have hnl8 := HNX8.out.lt
 have hnf8 := HNX8.out.frozen i
 have hnc8 := HNX8.out.cell him
 clear hbf8 hB8 hok8 HOM6 HNX7 HTX7 HBX7 HSF hln hnf hnc
 go_wp2_with (at_mapUpdate; refine x1k rfl _ _ _ 203 rfl x2h underlying203 rfl HOM8.out y HOKT.out rfl (dn : Int) rfl ?_; rw [HNF.out]; intro w9 hom9 hg9 hf9 hs9; have hnf9 := (hf9 ⟨nb, i, none⟩).trans hnf8; have hnx9 := HNX8.out.of_block (hg9.block nb hnl8 (fun e => hanb (Option.some.inj e).symm)); have hnc9 := hnx9.cell him; have hnl9 := hnx9.lt; have htx9 := HTX8.out.kept (KeepI.grown hg9 HOM8.out.block); have hbx9 := HBX8.out.grown hg9 hw8 (fun k hk => by have := Option.some.inj hk; omega); have hh9 : hi3 <= w9.heap.size := (by rw [hs9]; exact hh8); have HX9 := hid hnx9; have HT9 := hid htx9; have HB9 := hid hbx9; have HO9 := hid hom9; clear hnx9 htx9 hbx9 hom9 hg9 hf9 hs9 hnf8 hnc8 HNX8 HTX8 HBX8)
 go_roundw
 case rel => exact ⟨i + 1, by go_num, by omega, by rw [HDL2.out]; exact (HO9.out.congr HPU.out).of_block (Below.heap_setCell _ _ _ _ hanb), (HX9.out.set i (.int .i64 (dn : Int))).congr (fun j _ => by have h := q0b HLG2.out j; rw [HIX.out] at h; exact h), HT9.out.kept (KeepI.setCell HX9.out i _), by rw [size_setCell]; exact hh9, HB9.out.setCell hnblo _⟩
 case measure => simp [intOf]; omega))))
 · (
 obtain rfl : n = i := by omega
 have hnx2 : wr.rowIs nb 3 n (fun j => .int .i64 (clf n Gc j)) := HNX.out.congr (fun j hj => by rw [HLE.out]; exact u1y hj)
 have HNX2 := hid hnx2
 have hcn : canon (fl n (clf n Gc)) = fl n (clf n Gc) := by rw [<- p0p, z1f]
 have HCN := hid hcn
 clear hnx2 hcn HOM HNX
 go_wp2_with fail
 go_ret
 exact ⟨nb, clf n Gc, rfl, HNX2.out, HNS.out, HCN.out, hnblo, HBX.out⟩))))
end Go.Proofs.YtbaccmlfnbgehaaGreatDoor
