/-
  Lemmas.
-/
import Derived.Test.YtbaccmlfnbgehaaGreatDoorGCanon
import Derived.Test.YtbaccmlfnbgehaaGreatDoorGTold
import Derived.Test.YtbaccmlfnbgehaaGreatDoorGPlB
open List renaming getElem?_eq_some_iff → l0, flatMap_append → l7, mem_of_getElem? → l8, length_singleton → l9, length_append → m0, mem_cons → m1, length_map → m2, mem_append → m3, takeWhile_cons → m4, mem_cons_self → m5, set_append → m6, mem_map → m7
open Go.Proofs.Tryz
namespace Go.Proofs.YtbaccmlfnbgehaaGreatDoor
open Go.RowKit Pl
open Lib (hid)
namespace Pl
theorem u2f {α : Type} {p : α -> Bool} : ∀ {l : List α} {k : Nat}, k < (l.takeWhile p).length -> ∃ a, l[k]? = some a /\ p a = true /\ (l.takeWhile p)[k]? = some a
  | [], k, h => by simp at h
  | a :: l, k, h => by
    rw [m4] at h ⊢
    cases hp : p a with
    | false => rw [hp] at h; simp at h
    | true =>
      rw [hp] at h
      simp only [if_true] at h ⊢
      cases k with
      | zero => exact ⟨a, rfl, hp, rfl⟩
      | succ k =>
        obtain ⟨b, h1, h2, h3⟩ := u2f (l := l) (k := k) (by simpa using h)
        exact ⟨b, by simpa using h1, h2, by simpa using h3⟩
theorem k2s {α : Type} {p : α -> Bool} : ∀ (l : List α), (l.takeWhile p).length = l.length ∨ ∃ a, l[(l.takeWhile p).length]? = some a /\ p a = false
  | [] => .inl rfl
  | a :: l => by
    rw [m4]
    cases hp : p a with
    | false => exact .inr ⟨a, by simp, hp⟩
    | true =>
      rcases k2s (p := p) l with h | ⟨b, h1, h2⟩
      · left; simp [h]
      · right; exact ⟨b, by simpa using h1, h2⟩
theorem tw_le {α : Type} {p : α -> Bool} (l : List α) : (l.takeWhile p).length <= l.length := by
 rcases k2s (p := p) l with h | ⟨a, h1, _⟩
 · omega
 · have := (l0.1 h1).1; omega
theorem y2f {s : Lts} {x k : Nat} (h : k < (taus s x).length) : ∃ st : S, (s.outs (x : Int))[k]? = some st /\ st.1 = 0 /\ (taus s x)[k]? = some st.2.toNat := by
 unfold taus at h ⊢
 rw [m2] at h
 obtain ⟨a, h1, h2, h3⟩ := u2f h
 exact ⟨a, h1, by simpa using h2, by rw [List.getElem?_map, h3]; rfl⟩
theorem y2g (s : Lts) (x : Nat) : (taus s x).length = (s.outs (x : Int)).length ∨ ∃ st : S, (s.outs (x : Int))[(taus s x).length]? = some st /\ st.1 ≠ 0 := by
 unfold taus
 rw [m2]
 rcases k2s (p := fun y : S => y.1 == 0) (s.outs (x : Int)) with h | ⟨a, h1, h2⟩
 · exact .inl h
 · exact .inr ⟨a, h1, by simpa using h2⟩
theorem u2s (s : Lts) (x : Nat) : (taus s x).length <= (s.outs (x : Int)).length := by
 unfold taus; rw [m2]; exact tw_le _
end Pl
def TWS (w0 wr : World) (B WB LB NB IB CB n : Nat) (gp : Value) (t : TS) (sl : List E) (vo vs : Value) : Prop :=
  TW w0 wr B WB LB NB IB CB n gp t.low t.num t.cls (fun (j : Nat) => decide (j ∈ t.opn)) t.met t.found (t.opn.reverse.map Int.ofNat) sl vo vs
theorem k3t {w : World} {b : Nat} {t : TypeId} {e : E} (h : w.heap[b]? = some (.cells #[.int .i64 e.1, .int .i64 e.2.1, .int .i64 e.2.2] t (0, 0))) :
    ∀ j u, [Value.int .i64 e.1, .int .i64 e.2.1, .int .i64 e.2.2][j]? = some u -> w.cell? ((⟨b, 0, none⟩ : Addr).add j) = some u :=
  cells3 (by simp [World.cell?, h]) (by simp [World.cell?, h]) (by simp [World.cell?, h])
theorem x2a (sl0 : List E) (a b c c' : Int) : ((sl0 ++ [(a, b, c)]).flatMap encE).set (sl0.length * 3 + 2) (.int .i64 c') = (sl0 ++ [(a, b, c')]).flatMap encE := by
 rw [l7, l7, m6, if_neg (by rw [j0b k0q]; omega), j0b k0q]
 rw [show sl0.length * 3 + 2 - sl0.length * 3 = 2 by omega]
 rfl
theorem v0x (sl0 : List E) (a b c b' : Int) : ((sl0 ++ [(a, b, c)]).flatMap encE).set (sl0.length * 3 + 1) (.int .i64 b') = (sl0 ++ [(a, b', c)]).flatMap encE := by
 rw [l7, l7, m6, if_neg (by rw [j0b k0q]; omega), j0b k0q]
 rw [show sl0.length * 3 + 1 - sl0.length * 3 = 1 by omega]
 rfl
section
variable {w0 w wr : World} {B WB LB NB IB CB n : Nat} {gp : Value} {low num cls : Nat -> Int} {iso : Nat -> Bool} {met found : Int} {ol : List Int} {sl : List E} {vo vs : Value}
theorem TW.top {sl0 : List E} {x : E} {g m c : Nat} (h : TW w0 wr B WB LB NB IB CB n gp low num cls iso met found ol (sl0 ++ [x]) vo (.slice (some ⟨g, 0, none⟩) m c)) :
    wr.cell? ⟨g, sl0.length * 3, none⟩ = some (.int .i64 x.1) /\ wr.cell? ⟨g, sl0.length * 3 + 1, none⟩ = some (.int .i64 x.2.1) /\ wr.cell? ⟨g, sl0.length * 3 + 2, none⟩ = some (.int .i64 x.2.2) /\ (∀ j, wr.frozen? ⟨g, j, none⟩ = false) /\ g < wr.heap.size /\ B <= g /\ m = sl0.length + 1 /\ m <= c := by
 have hs := z0e (n := m) (cap := c) k0q h.stk
 have hx : (sl0 ++ [x])[sl0.length]? = some x := by simp
 have h0 := hs.e0 hx; have h1 := hs.e1 hx; have h2 := hs.e2 hx
 simp only [Nat.zero_add] at h0 h1 h2
 obtain ⟨a', c', b', hv, q1, q2, _⟩ := j0d k0q h.stk
 simp only [Value.slice.injEq] at hv
 obtain ⟨_, hm, hc⟩ := hv
 subst hc
 refine ⟨h0, h1, h2, fun j => p0t h.stk j, hs.lt (by simp), h.sgt g rfl, by simpa using hm, by omega⟩
end
def DeepPost (s : Lts) (w0 : World) (B WB LB NB IB CB n : Nat) (gp : Value) (t0 : TS) (x : Nat) (K : List Nat) (nx0 : Nat -> Nat) (sl0 : List E) (vo vs : Value) (e : Ending) (w' : World) : Prop :=
  ∃ (t : TS) (nx : Nat -> Nat), TI s n t (x :: K) nx /\ (∀ z, z ≠ x -> nx z = nx0 z) /\ ((∀ z, t0.num z ≠ 0 -> t.num z ≠ 0) /\ t0.met <= t.met) /\
    ((e = .returned (.bool true) /\ ∃ (y : Nat) (g m c : Nat), (taus s x)[nx x]? = some y /\ t.num y = 0 /\ TWS w0 w' B WB LB NB IB CB n gp t (sl0 ++ [((x : Int), 1, ((nx x + 1 : Nat) : Int))] ++ [((y : Int), 0, 0)]) vo (.slice (some ⟨g, 0, none⟩) m c)) ∨
     (e = .returned (.bool false) /\ nx x = (taus s x).length /\ TWS w0 w' B WB LB NB IB CB n gp t (sl0 ++ [((x : Int), 1, ((nx x : Nat) : Int))]) vo vs))
set_option maxRecDepth 100000 in
set_option maxHeartbeats 8000000 in
theorem j1h {s : Lts} {w0 w : World} {B WB LB NB IB CB n gb : Nat} {t : TS} {x : Nat} {K : List Nat} {nx : Nat -> Nat} {sl0 : List E} {vo : Value} {g m c : Nat} (hG : GraphAt w0 gb s) (hn : s.st = (n : Int)) (hTI : TI s n t (x :: K) nx)
    (h : TWS w0 w B WB LB NB IB CB n (.pointer (some ⟨gb, 0, none⟩)) t (sl0 ++ [((x : Int), 1, ((nx x : Nat) : Int))]) vo (.slice (some ⟨g, 0, none⟩) m c)) (hsl : sl0.length <= 1000) (hnx : nx x <= (taus s x).length) :
    Calls prog 203 #[.pointer (some ⟨WB, 0, none⟩), .pointer (some ⟨g, sl0.length * 3, none⟩)] w (DeepPost s w0 B WB LB NB IB CB n (.pointer (some ⟨gb, 0, none⟩)) t x K nx sl0 vo (.slice (some ⟨g, 0, none⟩) m c)) := by
 have hol := q0c hG.right (x : Int)
 have htl := u2s s x
 have KEEP : Hid (∀ W, TWS w0 W B WB LB NB IB CB n (.pointer (some ⟨gb, 0, none⟩)) t (sl0 ++ [((x : Int), 1, ((nx x : Nat) : Int))]) vo (.slice (some ⟨g, 0, none⟩) m c) ->
     W.cell? ⟨WB, 0, none⟩ = some (.pointer (some ⟨gb, 0, none⟩)) /\ W.cell? ⟨g, sl0.length * 3, none⟩ = some (.int .i64 x) /\ TWS w0 W B WB LB NB IB CB n (.pointer (some ⟨gb, 0, none⟩)) t (sl0 ++ [((x : Int), 1, ((nx x : Nat) : Int))]) vo (.slice (some ⟨g, 0, none⟩) m c)) :=
   hid (fun W hW => ⟨(TW.cells hW).1, (TW.top hW).1, hW⟩)
 obtain ⟨gl, gB⟩ : g < w.heap.size /\ B <= g := ⟨(TW.top h).2.2.2.2.1, (TW.top h).2.2.2.2.2.1⟩
 obtain ⟨l1, l2, l3, l4, l5, l6⟩ := TW.lts h
 have hxn : x < n := hTI.opn_lt x (hTI.gin x m5)
 have H := hid h; have HG := hid hG; have HN := hid hn; have HTI := hid hTI; have HNX := hid hnx
 have CE : Hid (∀ W, TWS w0 W B WB LB NB IB CB n (.pointer (some ⟨gb, 0, none⟩)) t (sl0 ++ [((x : Int), 1, ((nx x : Nat) : Int))]) vo (.slice (some ⟨g, 0, none⟩) m c) -> Calls prog 132 #[.pointer (some ⟨gb, 0, none⟩), .int .i64 x] W fun e w' => StepsRet w0 e (s.outs x) /\ Below W.heap.size W w') :=
   hid (fun W hW => p1e HG.out (TW.bel hW) x)
 have HS0 : Hid (TWS w0 w.drew B WB LB NB IB CB n (.pointer (some ⟨gb, 0, none⟩)) t (sl0 ++ [((x : Int), 1, ((nx x : Nat) : Int))]) vo (.slice (some ⟨g, 0, none⟩) m c)) := hid (TW.drew h)
 obtain ⟨o, ho⟩ : ∃ o, o = sl0.length * 3 := ⟨_, rfl⟩
 rw [<- ho] at KEEP ⊢
 have HO := hid ho
 clear h hG hn hTI hnx ho
 go_enter func203, ntmps203
 go_wp2_with fail
 go_region_held3 (fun W => W.cell? ⟨WB, 0, none⟩ = some (.pointer (some ⟨gb, 0, none⟩)) /\ W.cell? ⟨g, o, none⟩ = some (.int .i64 x) /\ TWS w0 W B WB LB NB IB CB n (.pointer (some ⟨gb, 0, none⟩)) t (sl0 ++ [((x : Int), 1, ((nx x : Nat) : Int))]) vo (.slice (some ⟨g, 0, none⟩) m c))
   (first | (exact KEEP.out _ HS0.out) | (go_split_ands; exact KEEP.out _ (TW.call (by assumption) (by assumption))))
   ((go_at_call 132; go_split_ands; refine (CE.out _ (by assumption)).mono ?_; rintro e w1 ⟨⟨a1, c1, b1, o1, rfl, hc1, hm1, hs1⟩, hB⟩))
 have HW1 : Hid (TWS w0 w1 B WB LB NB IB CB n (.pointer (some ⟨gb, 0, none⟩)) t (sl0 ++ [((x : Int), 1, ((nx x : Nat) : Int))]) vo (.slice (some ⟨g, 0, none⟩) m c)) := hid (by go_split_ands; assumption)
 go_split_ands
 obtain ⟨L, hL⟩ : ∃ L, L = s.outs (x : Int) := ⟨_, rfl⟩
 rw [<- hL] at hol htl hs1 ⊢
 have HL := hid hL; have HS1 := hid hs1
 clear hs1 hL hB KEEP CE HS0 H l1 l2 l3 l4 l5 l6 gl
 rename_i q1 q2 q3
 clear q1 q2 q3
 go_wp2_with fail
 go_loopg [6] ((taus s x).length - nx x) (fun k _ wr => ∃ (tt : TS) (nn : Nat -> Nat), k = (taus s x).length - nn x /\ nn x <= (taus s x).length /\ TI s n tt (x :: K) nn /\ (∀ z, z ≠ x -> nn z = nx z) /\ ((∀ z, t.num z ≠ 0 -> tt.num z ≠ 0) /\ t.met <= tt.met) /\ TWS w0 wr B WB LB NB IB CB n (.pointer (some ⟨gb, 0, none⟩)) tt (sl0 ++ [((x : Int), 1, ((nn x : Nat) : Int))]) vo (.slice (some ⟨g, 0, none⟩) m c))
 case atStart => exact ⟨t, nx, rfl, HNX.out, HTI.out, fun _ _ => rfl, ⟨fun _ h => h, Int.le_refl _⟩, HW1.out⟩
 case round => (
 obtain ⟨tt, nn, rfl, hnn, hti, hoth, hmon, htw⟩ := hrel
 have HMON := hid hmon
 clear hmon
 obtain ⟨kx, hkx⟩ : ∃ kx, kx = nn x := ⟨_, rfl⟩
 rw [<- hkx] at htw hnn
 obtain ⟨v0, v1, v2, vf, gl, y1, y2, y3⟩ := TW.top htw
 clear y1 y2 y3
 rw [<- HO.out] at v0 v1 v2
 have vf2 := vf (o + 2)
 have hsr := HS1.out.below (TW.bel htw) (Nat.le_refl _)
 have hT := hid htw; have HTI2 := hid hti; have HOT := hid hoth; have HKX := hid hkx
 obtain ⟨h1, h2, h3, h4, h5⟩ := (TW.blk htw).hi
 have d1 : ¬ g = WB := by omega
 have d1s : ¬ WB = g := by omega
 clear htw hti hoth hkx vf HW1 HTI v1
 by_cases hlt : kx < (taus s x).length
 · (
 obtain ⟨st, hst, h0, htg⟩ := y2f hlt
 rw [<- HL.out] at hst
 have hkl := (l0.1 hst).1
 obtain rfl := hsr.ad (by omega)
 have e0 := hsr.s0 hst; have e1 := hsr.s1 hst
 have hbl := hsr.lt (by omega)
 have hyr := j0g.1 (HG.out.right.edges _ (j0s.1 (by rw [<- HL.out]; exact l8 hst)))
 have hyr2 := HN.out
 obtain ⟨st0, st1⟩ := st
 simp only at h0 hyr e0 e1 htg
 subst h0
 obtain ⟨y, rfl⟩ : ∃ y : Nat, st1 = (y : Int) := ⟨st1.toNat, by omega⟩
 simp only [Int.toNat_natCast] at htg
 have hyn : y < n := by omega
 have hyn' : (y : Int) < (n : Int) := by omega
 have hki : (kx : Int) < (L.length : Int) := by omega
 have hw : IntKind.i64.wrap ((kx : Int) + 1) = (kx : Int) + 1 := IntWalk.i64_in _ (by omega)
 have HST := hid hst; have HTG := hid htg; have HSR := hid hsr
 clear hst htg hyr hyr2 hsr
 go_upto_region 5 with fail
 have h2 : TW w0 (wr.setCell ⟨g, o + 2, none⟩ (.int .i64 ((kx : Int) + 1))) B WB LB NB IB CB n (.pointer (some ⟨gb, 0, none⟩)) tt.low tt.num tt.cls (fun (j : Nat) => decide (j ∈ tt.opn)) tt.met tt.found (tt.opn.reverse.map Int.ofNat) (sl0 ++ [((x : Int), 1, ((kx + 1 : Nat) : Int))]) vo (.slice (some ⟨g, 0, none⟩) m c) := by
   rw [HO.out]
   exact TW.setV hT.out _ _ (by simp) (by rw [x2a]; rfl)
 obtain ⟨W2, hW2⟩ : ∃ W2, W2 = wr.setCell ⟨g, o + 2, none⟩ (.int .i64 ((kx : Int) + 1)) := ⟨_, rfl⟩
 rw [<- hW2] at h2 ⊢
 clear hW2 v0 v2 vf2 e0 e1 gl hbl
 obtain ⟨c0, c1', c2, c3, c4, c5, c6, c7, c8⟩ := h2.cells
 obtain ⟨l1, l2, l3, l4, l5, l6⟩ := h2.lts
 have g2 := h2.num.cell hyn
 have H2 := hid h2
 obtain ⟨ny, hny⟩ : ∃ ny, ny = tt.num y := ⟨_, rfl⟩
 rw [<- hny] at g2
 have HNY := hid hny
 clear hny
 by_cases h0 : ny = 0
 · (
 have hb : (ny == 0) = true := by simp [h0]
 have H0 := hid h0
 have f8 := TW.fz H2.out 8
 clear h0 c0 c1' c3 c4 c5 c6 c7
 have hown2 : (W2.alloc (.cells #[.int .i64 y, .int .i64 0, .int .i64 0] 272)).ownsRow B 272 3 (.slice (some ⟨g, 0, none⟩) m c) (sl0.length + 1) ((sl0 ++ [((x : Int), 1, ((kx + 1 : Nat) : Int))]).flatMap encE) := by (
 have h := TW.stk (TW.alloc H2.out (.cells #[.int .i64 y, .int .i64 0, .int .i64 0] 272))
 rw [m0, l9] at h
 exact h)
 have hBz : B <= (W2.alloc (.cells #[.int .i64 y, .int .i64 0, .int .i64 0] 272)).heap.size := Nat.le_trans (TW.bsz H2.out) (by simp)
 have HOWN2 := hid hown2; have HBZ := hid hBz
 clear hown2 hBz
 go_wp2_with (at_builtin; go_must (refine j0u rfl _ _ _ rfl rowV HBZ.out (v := .slice (some ⟨g, 0, none⟩) m c) (by rfl) HOWN2.out ⟨W2.heap.size, 0, none⟩ 1 1 [.int .i64 y, .int .i64 0, .int .i64 0] rfl rfl (k3t (e := ((y : Int), 0, 0)) (heap_alloc_new W2 _)) (by simp [Value.oneCell']) (by decide) (by omega) (by unfold maxLen; omega) (W2.heap.size + 1) (by simp) ?_); intro g2' cap2 w7 hown7 hg7 hl7 hlt7; obtain ⟨k0, k1, k2, k3, k4, k5, k6, k7, k8, k9, k10, k11⟩ := TW.wcells ((TW.grownS (TW.alloc H2.out _) hg7).1.trans (TW.wb (TW.alloc H2.out _))))
 have hp := TW.pushS (m := sl0.length + 1 + 1) (c := cap2) (sl' := sl0 ++ [((x : Int), 1, ((kx + 1 : Nat) : Int))] ++ [((y : Int), 0, 0)]) (TW.alloc H2.out _) (by rw [m0, m0, l9, l9, l7]; exact hown7) hg7 (hl7.imp_right (fun e => by simp; omega))
 go_ret
 refine ⟨tt, nn, HTI2.out, HOT.out, HMON.out, .inl ⟨rfl, y, g2', sl0.length + 1 + 1, cap2, by rw [<- HKX.out]; exact HTG.out, by rw [<- HNY.out]; exact H0.out, ?_⟩⟩
 rw [<- HKX.out]
 exact hp)
 · (
 have hb : (ny == 0) = false := by simp [h0]
 have H0 := hid h0
 have g4 := h2.iso.cell hyn
 clear h0
 by_cases hop : y ∈ tt.opn
 · (
 have hd : decide (y ∈ tt.opn) = true := by simp [hop]
 rw [hd] at g4
 have HOP := hid hop
 have g1 := h2.low.cell hxn
 have e1 := h2.low.frozen x
 obtain ⟨lx, hlx⟩ : ∃ lx, lx = tt.low x := ⟨_, rfl⟩
 rw [<- hlx] at g1
 have HLX := hid hlx
 obtain ⟨u0, u1, u2, uf, ug, y1, y2, y3⟩ := TW.top h2
 clear y1 y2 y3
 rw [<- HO.out] at u0 u1 u2
 have hxn' : (x : Int) < (n : Int) := by omega
 clear hop hd hlx uf u1 u2 h2 c3 c5 c6 c7 c8
 go_wp2_with fail
 go_region
 have hsc := HTI2.out.scan (by rw [<- HKX.out]; exact HTG.out) (p0m HG.out.right HG.out.srt |>.1 (l8 HTG.out)) hyn (by rw [<- HNY.out]; exact H0.out)
 rw [if_pos HOP.out, <- HKX.out] at hsc
 have hmin : (if ny < lx then ny else lx) = min (tt.low x) (tt.num y) := by rw [<- HLX.out, <- HNY.out]; split <;> omega
 have h3 := (TW.setLow H2.out x (if ny < lx then ny else lx)).drew
 rw [hmin] at h3
 have H3 := hid h3; have HSC := hid hsc
 first | rw [hmin] | rw [show min lx ny = min (tt.low x) (tt.num y) by rw [<- HLX.out, <- HNY.out]]
 clear h3 hsc hmin u0 g1 g2 g4 e1 l1 l2 l3 l4 l5 l6 c0 c1' c2 c4
 go_wp2_with fail
 go_roundg ((taus s x).length - (kx + 1))
 case measure => have := HKX.out; omega
 case rel => exact ⟨_, upd nn x (kx + 1), by rw [upd_same], by rw [upd_same]; omega, HSC.out, fun z hz => by rw [j0j _ _ hz]; exact HOT.out z hz, HMON.out, by rw [upd_same]; exact H3.out⟩)
 · (
 have hd : decide (y ∈ tt.opn) = false := by simp [hop]
 rw [hd] at g4
 have HOP := hid hop
 clear hop hd h2
 go_wp2_with fail
 have hsc := HTI2.out.scan (by rw [<- HKX.out]; exact HTG.out) (p0m HG.out.right HG.out.srt |>.1 (l8 HTG.out)) hyn (by rw [<- HNY.out]; exact H0.out)
 rw [if_neg HOP.out, <- HKX.out] at hsc
 go_roundg ((taus s x).length - (kx + 1))
 case measure => have := HKX.out; omega
 case rel => exact ⟨_, upd nn x (kx + 1), by rw [upd_same], by rw [upd_same]; omega, hsc, fun z hz => by rw [j0j _ _ hz]; exact HOT.out z hz, HMON.out, by rw [upd_same]; exact H2.out⟩)))
 · (
 have hkk : kx = (taus s x).length := by omega
 have HKK := hid hkk
 rcases y2g s x with he | ⟨st, hst, hne⟩
 · (
 rw [<- HL.out, <- hkk] at he
 have hki : ¬ (kx : Int) < (L.length : Int) := by omega
 have hd : decide (kx < L.length) = false := by simp; omega
 clear he hkk hlt hsr
 go_wp2_with fail
 go_ret
 refine ⟨tt, nn, HTI2.out, HOT.out, HMON.out, .inr ⟨rfl, by rw [<- HKX.out]; exact HKK.out, ?_⟩⟩
 rw [<- HKX.out]
 exact hT.out)
 · (
 rw [<- HL.out, <- hkk] at hst
 have hkl := (l0.1 hst).1
 obtain rfl := hsr.ad (by omega)
 have e0 := hsr.s0 hst
 have hbl := hsr.lt (by omega)
 have hki : (kx : Int) < (L.length : Int) := by omega
 have hb : (st.1 == 0) = false := by simp [hne]
 clear hst hkk hlt hsr hne
 go_wp2_with fail
 go_ret
 refine ⟨tt, nn, HTI2.out, HOT.out, HMON.out, .inr ⟨rfl, by rw [<- HKX.out]; exact HKK.out, ?_⟩⟩
 rw [<- HKX.out]
 exact hT.out)))
end Go.Proofs.YtbaccmlfnbgehaaGreatDoor
namespace Go.Proofs.YtbaccmlfnbgehaaGreatDoor
open Go.RowKit Pl
def stkOf (K : List Nat) (nx : Nat -> Nat) : List E := K.reverse.map (fun (z : Nat) => ((z : Int), (1 : Int), ((nx z : Nat) : Int)))
theorem j0z (x : Nat) (K : List Nat) (nx : Nat -> Nat) : stkOf (x :: K) nx = stkOf K nx ++ [((x : Int), 1, ((nx x : Nat) : Int))] := by simp [stkOf]
theorem p0x {K : List Nat} {nx nx' : Nat -> Nat} (h : ∀ z ∈ K, nx z = nx' z) : stkOf K nx = stkOf K nx' := by
 unfold stkOf
 apply List.map_congr_left
 intro z hz
 rw [h z (by simpa using hz)]
theorem k0m (K : List Nat) (nx : Nat -> Nat) : (stkOf K nx).length = K.length := by simp [stkOf]
inductive FromSt (s : Lts) (n : Nat) (t : TS) : List E -> Nat -> Prop
  | done (nx : Nat -> Nat) (k : Nat) : TI s n t [] nx -> FromSt s n t [] k
  | seen (x : Nat) (K : List Nat) (nx : Nat -> Nat) (k : Nat) : TI s n t (x :: K) nx -> (∀ z ∈ x :: K, nx z <= (taus s z).length) -> 3 * (n - t.met.toNat) + (K.length + 1) + 2 <= k -> FromSt s n t (stkOf K nx ++ [((x : Int), 1, ((nx x : Nat) : Int))]) k
  | come (y : Nat) (K : List Nat) (nx nx' : Nat -> Nat) (k : Nat) : TI s n t K nx -> y < n -> t.num y = 0 -> (∀ g ∈ K, TR s g y) -> (∀ x y', x ∈ K -> y' ∈ (taus s x).take (nx' x) -> y' = y ∨ y' ∈ (taus s x).take (nx x)) -> (∀ z ∈ K, nx' z <= (taus s z).length) ->
      3 * (n - t.met.toNat) + (K.length + 1) <= k -> FromSt s n t (stkOf K nx' ++ [((y : Int), 0, 0)]) k
section
variable {s : Lts} {n : Nat} {t : TS} {K : List Nat} {nx nx' : Nat -> Nat}
theorem Pl.TI.notin {x : Nat} (h : TI s n t (x :: K) nx) : x ∉ K := fun hh => by
  have := (List.pairwise_cons.1 h.gsrt).1 x hh; omega
theorem Pl.TI.opn_len (h : TI s n t K nx) : t.opn.length <= n := by
 have h1 : (t.opn.map Int.ofNat).Nodup := by (
 unfold List.Nodup
 rw [List.pairwise_map]
 exact h.nd.imp (fun hab e => hab (Int.ofNat.inj e)))
 have := q1n h1 (n := n) (fun x hx => by (
 obtain ⟨i, hi, rfl⟩ := m7.1 hx
 have := h.opn_lt i hi
 show 0 <= (i : Int) /\ (i : Int) < n; omega))
 simpa using this
theorem FromSt.push {x y k : Nat} (h : TI s n t (x :: K) nx) (hr : s.Right) (hs : Srt ltE s.es) (hn : s.st = (n : Int)) (hy : (taus s x)[nx x]? = some y) (h0 : t.num y = 0) (hnx : ∀ z ∈ K, nx z <= (taus s z).length) (hk : 3 * (n - t.met.toNat) + (K.length + 2) <= k) :
    FromSt s n t (stkOf K nx ++ [((x : Int), 1, ((nx x + 1 : Nat) : Int))] ++ [((y : Int), 0, 0)]) k := by
 have hxK := h.notin
 have htx : tau s x y := (p0m hr hs).1 (l8 hy)
 have hlt := (l0.1 hy).1
 have e : stkOf K nx ++ [((x : Int), 1, ((nx x + 1 : Nat) : Int))] = stkOf (x :: K) (upd nx x (nx x + 1)) := by
   rw [j0z, upd_same, p0x (nx := upd nx x (nx x + 1)) (nx' := nx) (fun z hz => j0j _ _ (fun e => hxK (e ▸ hz)))]
 rw [e]
 refine .come y (x :: K) nx _ k h (x0l hr hn htx).2 h0 (fun g hg => ?_) (fun x' y' hx' hy' => ?_) (fun z hz => ?_) (by simp; omega)
 · exact (h.tree g hg x (h.gin x m5) (h.top g hg)).tail htx
 · (
 by_cases e : x' = x
 · (
 subst e
 rw [upd_same] at hy'
 obtain ⟨hl, hg⟩ := l0.1 hy
 rw [List.take_succ_eq_append_getElem hl, hg] at hy'
 rcases m3.1 hy' with h1 | h1
 · exact .inr h1
 · exact .inl (by simpa using h1))
 · rw [j0j _ _ e] at hy'; exact .inr hy')
 · (
 by_cases e : z = x
 · subst e; rw [upd_same]; omega
 · rw [j0j _ _ e]
   rcases m1.1 hz with h1 | h1
   · exact absurd h1 e
   · exact hnx z h1)
theorem k1u {x : Nat} (hr : s.Right) (hs : Srt ltE s.es) (he : nx x = (taus s x).length) : ∀ y, tau s x y -> y ∈ (taus s x).take (nx x) := by
 intro y hy
 rw [he, List.take_length]
 exact (p0m hr hs).2 hy
theorem FromSt.left1 {x g k : Nat} (h : TI s n t (x :: g :: K) nx) (hr : s.Right) (hs : Srt ltE s.es) (he : nx x = (taus s x).length) (hne : t.low x ≠ t.num x) (hnx : ∀ z ∈ g :: K, nx z <= (taus s z).length) (hk : 3 * (n - t.met.toNat) + (K.length + 1) + 2 <= k) :
    FromSt s n { t with low := upd t.low g (min (t.low g) (t.low x)) } (stkOf (g :: K) nx) k := by
 obtain ⟨g', K', e, h2⟩ := h.leave1 (k1u hr hs he) hne
 simp only [List.cons.injEq] at e
 obtain ⟨rfl, rfl⟩ := e
 rw [j0z]
 exact .seen _ K nx k h2 hnx hk
theorem FromSt.left2 {x k : Nat} (h : TI s n t (x :: K) nx) (hr : s.Right) (hs : Srt ltE s.es) (hn : s.st = (n : Int)) (he : nx x = (taus s x).length) (heq : t.low x = t.num x) {Pp Q : List Nat} (ho : t.opn = Pp ++ x :: Q) (hnx : ∀ z ∈ K, nx z <= (taus s z).length) (hk : 3 * (n - t.met.toNat) + K.length + 2 <= k) :
    FromSt s n { t with opn := Q, cls := fun i => if i ∈ Pp ++ [x] then t.found else t.cls i, found := t.found + 1 } (stkOf K nx) k /\ (∀ g ∈ K, t.low g <= t.low x) := by
 obtain ⟨h2, h3⟩ := h.leave2 hr hn (k1u hr hs he) heq ho
 refine ⟨?_, h3⟩
 cases K with
 | nil => exact .done nx k h2
 | cons g K' =>
   rw [j0z]
   exact .seen g K' nx k h2 hnx (by simp at hk ⊢; omega)
theorem v1f {x : Nat} {Pp Q : List Nat} (ho : t.opn = Pp ++ x :: Q) : t.opn.reverse.map Int.ofNat = Q.reverse.map Int.ofNat ++ [(x : Int)] ++ Pp.reverse.map Int.ofNat := by
 rw [ho]; simp
theorem v1o {l : List Nat} {i : Nat} : (i : Int) ∈ l.reverse.map Int.ofNat ↔ i ∈ l := by
 rw [m7]
 constructor
 · rintro ⟨j, hj, e⟩
   have : j = i := Int.ofNat.inj e
   subst this; simpa using hj
 · intro h; exact ⟨i, by simpa using h, rfl⟩
theorem x2l (x : Nat) (Pp : List Nat) (v : Int) (f : Nat -> Int) : (fun (i : Nat) => if (i : Int) ∈ (x : Int) :: Pp.reverse.map Int.ofNat then v else f i) = fun i => if i ∈ Pp ++ [x] then v else f i := by
 funext i
 have : ((i : Int) ∈ (x : Int) :: Pp.reverse.map Int.ofNat) ↔ i ∈ Pp ++ [x] := by (
 rw [m1, v1o, m3, List.mem_singleton]
 constructor
 · rintro (h | h)
   · exact .inr (by omega)
   · exact .inl h
 · rintro (h | h)
   · exact .inr h
   · exact .inl (by omega))
 simp only [this]
theorem q2r {x : Nat} {Pp Q : List Nat} (hnd : t.opn.Nodup) (ho : t.opn = Pp ++ x :: Q) : (fun (i : Nat) => if (i : Int) ∈ (x : Int) :: Pp.reverse.map Int.ofNat then false else decide (i ∈ t.opn)) = fun (i : Nat) => decide (i ∈ Q) := by
 funext i
 rw [ho] at hnd ⊢
 have hd := List.nodup_append.1 hnd
 have hx := List.nodup_cons.1 hd.2.1
 have : ((i : Int) ∈ (x : Int) :: Pp.reverse.map Int.ofNat) ↔ i = x ∨ i ∈ Pp := by (
 rw [m1, v1o]
 constructor
 · rintro (h | h)
   · exact .inl (by omega)
   · exact .inr h
 · rintro (h | h)
   · exact .inl (by omega)
   · exact .inr h)
 by_cases h1 : (i : Int) ∈ (x : Int) :: Pp.reverse.map Int.ofNat
 · (
 rw [if_pos h1]
 have h2 : i ∉ Q := by (
 rcases this.1 h1 with rfl | h3
 · exact hx.1
 · intro h4; exact hd.2.2 i h3 i (by simp [h4]) rfl)
 simp [h2])
 · (
 rw [if_neg h1]
 have h2 : ¬ (i = x ∨ i ∈ Pp) := fun h => h1 (this.2 h)
 have h3 : (i ∈ Pp ++ x :: Q) ↔ i ∈ Q := by (
 simp only [m3, m1]
 constructor
 · rintro (h | h | h)
   · exact absurd (.inr h) h2
   · exact absurd (.inl h) h2
   · exact h
 · intro h; exact .inr (.inr h))
 simp only [h3])
end
end Go.Proofs.YtbaccmlfnbgehaaGreatDoor
