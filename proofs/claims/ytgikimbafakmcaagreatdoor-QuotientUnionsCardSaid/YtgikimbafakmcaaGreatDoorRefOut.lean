/-
  Lemmas.
-/
import Derived.Test.YtgikimbafakmcaaGreatDoorGLaidQun
import Derived.Test.YtgikimbafakmcaaGreatDoorRefSort2
open List renaming getElem_toArray -> qga, getElem_cons_zero -> qgz, getElem_cons_succ -> qgs, setIfInBounds_toArray -> qgt, set_cons_zero -> qgx, set_cons_succ -> qgy
namespace Go.Proofs.YtgikimbafakmcaaGreatDoor
open Go.RowKit Pl
open Lib (hid)
theorem cell_setOther' {w : World} {p : Addr} (a : Addr) (v : Value) (h : a.block ≠ p.block) : (w.setCell p v).cell? a = w.cell? a := World.cell?_of_block (Below.heap_setCell _ _ _ _ h)
theorem step_lies {P : Program} {w : World} {ops : Array Oper} {o : Oper} {a : Act} {K : Act -> World -> Prop} {Q : Exit -> Act -> World -> Prop} {F : Prop} (hgd : o.guard = none) (s x : Operand) (t : TypeId)
    (ho : o.op = .call { callee := .builtin .append, args := #[s, x], argTypes := #[t, t] })
    {e : TypeId} {size bytes : Nat} {z : Value} (R : IsRow P t e size bytes z) {base : Nat} (hb0 : base <= w.heap.size)
    {v : Value} {n : Nat} {xs : List Value} (hs : a.eval s = v) (hown : w.ownsRow base e size v n xs)
    (ad : Addr) (m c : Nat) (news : List Value) (hx : a.eval x = .slice (some ad) m c) (hl : news.length = m * size) (hnews : ∀ j u, news[j]? = some u -> w.cell? (ad.add j) = some u) (h1 : ∀ u ∈ news, u.oneCell' = true) (hm : 0 < m)
    (hbytes : (n + m) * bytes <= 140737488355328) (hmax : n + m <= maxLen) (H : Nat) (hH : w.heap.size = H + 1)
    (h : ∀ g cap w', w'.ownsRow base e size (.slice (some ⟨g, 0, none⟩) (n + m) cap) (n + m) (xs ++ news) -> w.grownBy w' v.ownBlock -> (v.ownBlock = some g ∨ g = H + 1) -> g < w'.heap.size -> K (a.put o.dst (.slice (some ⟨g, 0, none⟩) (n + m) cap)) w') :
    if Region.wanted o (yielded ops a.tmps) = true then Oper.wp P o a w K Q else F := by
 have hw : Region.wanted o (yielded ops a.tmps) = true := by simp [Region.wanted, hgd]
 rw [if_pos hw]
 obtain ⟨i, hi, hz, hsz, hby⟩ := R.info
 exact wp_append_lies w s x t ho base e i z size bytes R.ht hi hz hsz hby R.zs R.pos v n xs hs hown ad m c news hx hl hnews h1 hm hmax hbytes hb0 (H + 1) hH (fun g cap w' h2 h3 h4 h5 => h g cap w' h2 h3 h4 h5)
def outsOf (l : List E) (i : Int) : List S := (l.filter (fun x => x.1 == i)).map (fun x => (x.2.1, x.2.2))
theorem outsOf_snoc (l : List E) (x : E) (i : Int) : outsOf (l ++ [x]) i = if x.1 = i then outsOf l i ++ [(x.2.1, x.2.2)] else outsOf l i := by
 unfold outsOf
 rw [List.filter_append, List.map_append]
 by_cases h : x.1 = i
 · rw [if_pos h]; simp [h]
 · rw [if_neg h]; simp [h]
theorem outsOf_len (l : List E) (i : Int) : (outsOf l i).length <= l.length := by
 unfold outsOf; rw [List.length_map]; exact List.length_filter_le _ _
theorem OwnRows.made' {α : Type} {enc : α -> List Value} {k : Nat} {e T : TypeId} {w w' : World} {n B : Nat} (hB : w.heap.size < B) (hb : w'.heap[w.heap.size]? = (w.alloc (.cells (madeCells #[.slice none 0 0] n) T)).heap[w.heap.size]?) : OwnRows enc k e T w' B w.heap.size n (fun _ => []) where
  ex := ⟨fun _ => .slice none 0 0, (World.rowIs_made w (.slice none 0 0) n T).of_block hb, fun p _ => ⟨by simp, .inl ⟨rfl, rfl⟩⟩, fun p q g _ _ _ h => by simp [Value.ownBlock] at h⟩
  lt := hB
structure OW (w1 wr : World) (ob n : Nat) (f : Nat -> List S) : Prop where
  rows : OwnRows encS 2 129 113 wr w1.heap.size ob n f
  bel : Below ob w1 wr
  oth : ∀ b, b < w1.heap.size -> b ≠ ob -> wr.heap[b]? = w1.heap[b]?
theorem OW.call {w1 wr w' : World} {ob n : Nat} {f : Nat -> List S} (h : OW w1 wr ob n f) (hB : Below wr.heap.size wr w') : OW w1 w' ob n f :=
  ⟨h.rows.call hB, h.bel.trans (hB.mono (Nat.le_of_lt h.rows.size)), fun b hb hne => by rw [hB.block _ (Nat.lt_of_lt_of_le hb h.bel.size)]; exact h.oth b hb hne⟩
theorem OW.sl {α : Type} {enc : α -> List Value} {m : Nat} {w1 wr : World} {ob n : Nat} {f : Nat -> List S} {a : Option Addr} {b off : Nat} {xs : List α} (h : OW w1 wr ob n f) (hS : SlAt enc m w1 a b off xs) (hb : 0 < xs.length -> b ≠ ob) : SlAt enc m wr a b off xs :=
  ⟨hS.ad, fun hp => Nat.lt_of_lt_of_le (hS.lt hp) h.bel.size, fun i x hx j u hu => by
    have hp : 0 < xs.length := by have := (List.getElem?_eq_some_iff.1 hx).1; omega
    rw [World.cell?_of_block (w := w1) (a := ⟨b, off + i * m + j, none⟩) (h.oth b (hS.lt hp) (hb hp))]
    exact hS.cell i x hx j u hu⟩
theorem OW.congr {w1 wr : World} {ob n : Nat} {f f' : Nat -> List S} (h : OW w1 wr ob n f) (e : ∀ i, f i = f' i) : OW w1 wr ob n f' := by
 have : f = f' := funext e
 rw [<- this]; exact h
theorem OW.open {w1 wr : World} {ob n : Nat} {f : Nat -> List S} (h : OW w1 wr ob n f) {p : Nat} (hp : p < n) : ∃ v, wr.cell? ⟨ob, p, none⟩ = some v /\ wr.frozen? ⟨ob, p, none⟩ = false /\ wr.ownsRow w1.heap.size 129 2 v (f p).length ((f p).flatMap encS) /\
    ∀ (w2 w3 : World) (g cap : Nat) (ys : List S), Below wr.heap.size wr w2 -> w3.ownsRow w1.heap.size 129 2 (.slice (some ⟨g, 0, none⟩) ys.length cap) ys.length (ys.flatMap encS) -> w2.grownBy w3 v.ownBlock -> (v.ownBlock = some g ∨ wr.heap.size <= g) ->
      w3.cell? ⟨ob, p, none⟩ = some v /\ w3.frozen? ⟨ob, p, none⟩ = false /\
      OW w1 (w3.setCell ⟨ob, p, none⟩ (.slice (some ⟨g, 0, none⟩) ys.length cap)) ob n (fun i => if i = p then ys else f i) := by
 obtain ⟨v, h1, h2, h3, h4⟩ := h.rows.open hp
 refine ⟨v, h1, h2, h3, fun w2 w3 g cap ys hB hown hg hgg => ?_⟩
 have hs := h.bel.size
 have hob := h.rows.lt
 obtain ⟨h5, h6, h7⟩ := h4 w2 w3 g cap ys hB (Nat.le_trans hs hB.size) hown hg hgg
 have hv : ∀ b, b < w1.heap.size -> some b ≠ v.ownBlock := fun b hb e => by have := (h3.lt b e.symm).1; omega
 refine ⟨h5, h6, h7, ((h.bel.trans (hB.mono (by omega))).grown hg (by have := hB.size; omega) (fun k hk => by have := (h3.lt k hk).1; omega)).setCell (Nat.le_refl _) _, fun b hb hne => ?_⟩
 rw [Below.heap_setCell _ _ _ _ hne, hg.block b (by have := hB.size; omega) (hv b hb), hB.block b (by omega)]
 exact h.oth b hb hne
def OutPost (s : Lts) (w : World) (e : Ending) (w' : World) : Prop :=
  ∃ (ob n base : Nat), s.st = (n : Int) /\ e = .returned (.slice (some ⟨ob, 0, none⟩) n n) /\ OwnRows encS 2 129 113 w' base ob n (fun p => s.norm.outs (p : Int)) /\ w.heap.size <= ob /\ Below w.heap.size w w'
set_option maxRecDepth 100000 in
set_option maxHeartbeats 4000000 in
theorem refOut_any {s : Lts} (hr : s.Right) {a : Option Addr} {b off c : Nat} {w : World} (hS : SlAt encE 3 w a b off s.es) (hc : s.es.length <= c) (hcm : c <= maxLen) :
    Calls Tryz.prog 113 #[.agg #[.int .i64 s.st, .int .i64 s.lb, .int .i64 s.s0, .slice a s.es.length c]] w (OutPost s w) := by
 have hst := hr.st0
 obtain ⟨n, hn⟩ : ∃ n : Nat, s.st = (n : Int) := ⟨s.st.toNat, by omega⟩
 have hn1 : n <= 1000 := by omega
 have hle : s.es.length <= 10000 := by omega
 have hmk := run_make_row' (P := Tryz.prog) 36 113 (.slice none 0 0) 24 Tryz.underlying36 (by kernel_rfl) rfl .i64 .i64 n (by omega) (by omega)
 have hB0 := (Below.refl w.heap.size w).alloc (Nat.le_refl _) (Obj.cells #[.int .i64 n, .int .i64 s.lb, .int .i64 s.s0, .slice a s.es.length c] 24)
 have hB1 := hB0.alloc (by simp) (Obj.cells (madeCells #[.slice none 0 0] n) 113)
 have HSO := hid (refSorted_any _ (Nat.le_refl _) (hS.below hB1 (Nat.le_refl _)) hc hcm (by omega))
 have HR := hid hr; have HN := hid hn; have HB1 := hid hB1
 rw [hn]
 obtain ⟨el, hel⟩ : ∃ el, el = s.es.length := ⟨_, rfl⟩
 rw [<- hel] at HSO HB1 ⊢
 clear hB0 hB1 hS hst hn hr hc hcm hel
 go_enter Tryz.func113, Tryz.ntmps113
 go_wp2_with fail
 refine HSO.out.mono ?_
 rintro e w1 ⟨a1, c1, rfl, hown, hBs⟩
 obtain ⟨la, lc, lbk, hv, _, _, hsl, hlb⟩ := slAt_own lenE hown
 simp only [Value.slice.injEq] at hv
 obtain ⟨rfl, _, rfl⟩ := hv
 obtain ⟨L, hL⟩ : ∃ L, L = nf ltE s.es := ⟨_, rfl⟩
 have hLl : L.length <= 10000 := by rw [hL]; have := length_nf (lt := ltE) s.es; omega
 have hLr : ∀ x ∈ L, 0 <= x.1 /\ x.1 < (n : Int) := fun x hx => by (
 rw [hL] at hx
 have := offB_false.1 (HR.out.edges x ((mem_nf stoE x s.es).1 hx))
 have := HN.out; omega)
 rw [<- hL] at hsl hlb ⊢
 have hs1 : w.heap.size + 1 + 1 <= w1.heap.size := by have := hBs.size; simpa using this
 have hlb2 : 0 < L.length -> lbk ≠ w.heap.size + 1 := fun h => by have := hlb h; simp at this; omega
 have hOW : OW w1 w1 (w.heap.size + 1) n (fun p => outsOf (L.take 0) (p : Int)) := by (
 refine ⟨?_, Below.refl _ _, fun _ _ _ => rfl⟩
 have h := OwnRows.made' (enc := encS) (k := 2) (e := 129) (T := 113) (w := w.alloc (Obj.cells #[.int .i64 n, .int .i64 s.lb, .int .i64 s.s0, .slice a el c] 24)) (w' := w1) (n := n) (B := w1.heap.size) (by simp; omega) (hBs.block _ (by simp))
 simpa [outsOf] using h)
 have hBw : Below w.heap.size w w1 := HB1.out.trans (hBs.mono (by simp; omega))
 have HOW := hid hOW; have HSL := hid hsl; have HLR := hid hLr; have HLB := hid hlb2; have HL := hid hL; have HBW := hid hBw
 obtain ⟨ob, hob⟩ : ∃ ob, ob = w.heap.size + 1 := ⟨_, rfl⟩
 rw [<- hob] at HOW HLB ⊢
 have hob1 : ob < w1.heap.size := by omega
 have hob2 : w.heap.size <= ob := by omega
 have HOB := hid hob
 clear hmk hown hsl hlb hlb2 hLr hL hOW hBs hBw hob HB1 HSO
 go_wp2_with fail
 go_loopw [5] (fun v5 wr => ∃ k : Nat, v5 = .int .i64 k /\ k <= L.length /\ OW w1 wr ob n (fun p => outsOf (L.take k) (p : Int)))
   (fun v5 _ => L.length - (intOf v5).toNat)
 case atStart => exact ⟨0, rfl, Nat.zero_le _, HOW.out⟩
 case round => (
 obtain ⟨k, rfl, hk, how⟩ := hrel
 have HO := hid how
 have hszr := how.bel.size
 clear how HOW
 by_cases hlt : k < L.length
 · (
 obtain ⟨x, hx⟩ := getElem?_of_lt hlt
 have hslr := HO.out.sl HSL.out HLB.out
 obtain rfl := hslr.ad (by omega)
 have e0 := hslr.e0 hx; have e1 := hslr.e1 hx; have e2 := hslr.e2 hx
 have hkx := HLR.out x (List.mem_of_getElem? hx)
 have hlbl := hslr.lt (by omega)
 have hLne := HLB.out (by omega)
 have hXY : Hid (L[k]? = some x) := hid hx
 obtain ⟨x1, x2, x3⟩ := x
 obtain ⟨kn, rfl⟩ : ∃ kn : Nat, x1 = (kn : Int) := ⟨(x1).toNat, by simp only at hkx; omega⟩
 simp only [Nat.zero_add] at e0 e1 e2 hkx
 have hKn : kn < n := by omega
 have hKn2 : (kn : Int) < (n : Int) := by omega
 have hki : (k : Int) < (L.length : Int) := by omega
 obtain ⟨v, hcv, hfv, hown, hgo⟩ := HO.out.open hKn
 have hol := outsOf_len (L.take k) (kn : Int)
 have hol2 : (outsOf (L.take k) (kn : Int)).length <= 10000 := by rw [List.length_take] at hol; omega
 have HGO := hid hgo
 have nL : some lbk ≠ v.ownBlock := fun e => by have := hown.lt lbk e.symm; have := HSL.out.lt (by omega); omega
 have mL : lbk ≠ ob := hLne
 have hobr : ob < wr.heap.size := by omega
 clear hx hslr hgo hol hkx hLne
 go_wp2_with fail
 refine wp_region_held_drew (S := (fun w' => w'.cell? ⟨lbk, k * 3, none⟩ = some (.int .i64 (kn : Int)) /\ w'.cell? ⟨lbk, k * 3 + 1, none⟩ = some (.int .i64 x2) /\ w'.cell? ⟨lbk, k * 3 + 2, none⟩ = some (.int .i64 x3))) (by kernel_rfl) (by (try dsimp only); (first | go_keep | (go_split_ands; exact ⟨by rw [hg8.cell_far _ (by simp; omega) nL]; assumption, by rw [hg8.cell_far _ (by simp; omega) nL]; assumption, by rw [hg8.cell_far _ (by simp; omega) nL]; assumption⟩) | (go_split_ands; exact ⟨by rw [cell_setOther' _ _ mL]; assumption, by rw [cell_setOther' _ _ mL]; assumption, by rw [cell_setOther' _ _ mL]; assumption⟩))) (fun hHeld => ?_)
 refine qT 0 (v := ?_) ?_ ?_
 rotate_left
 · intro w hSw; (try dsimp only at hSw); go_simp; try with_reducible rfl
 try simp only [qga, qgz, Act.put, qgt, qgx, qgy]
 refine qT 1 (v := ?_) ?_ ?_
 rotate_left
 · intro w hSw; (try dsimp only at hSw); go_simp; try with_reducible rfl
 try simp only [qga, qgz, qgs, Act.put, qgt, qgx, qgy]
 refine qT 2 (v := ?_) ?_ ?_
 rotate_left
 · intro w hSw; (try dsimp only at hSw); go_simp; try with_reducible rfl
 try simp only [qga, qgz, qgs, Act.put, qgt, qgx, qgy]
 refine qT 3 (v := ?_) ?_ ?_
 rotate_left
 · intro w hSw; (try dsimp only at hSw); go_simp; try with_reducible rfl
 try simp only [qga, qgz, qgs, Act.put, qgt, qgx, qgy]
 refine qT 4 (v := ?_) ?_ ?_
 rotate_left
 · intro w hSw; (try dsimp only at hSw); go_simp; try with_reducible rfl
 try simp only [qga, qgz, qgs, Act.put, qgt, qgx, qgy]
 refine qT 5 (v := ?_) ?_ ?_
 rotate_left
 · intro w hSw; (try dsimp only at hSw); go_simp; try with_reducible rfl
 try simp only [qga, qgz, qgs, Act.put, qgt, qgx, qgy]
 refine qT 6 (v := ?_) ?_ ?_
 rotate_left
 · intro w hSw; (try dsimp only at hSw); go_simp; try with_reducible rfl
 try simp only [qga, qgz, qgs, Act.put, qgt, qgx, qgy]
 refine qT 7 (v := ?_) ?_ ?_
 rotate_left
 · intro w hSw; (try dsimp only at hSw); go_simp; try with_reducible rfl
 try simp only [qga, qgz, qgs, Act.put, qgt, qgx, qgy]
 refine qT 8 (v := ?_) ?_ ?_
 rotate_left
 · intro w hSw; (try dsimp only at hSw); go_simp; try with_reducible rfl
 try simp only [qga, qgz, qgs, Act.put, qgt, qgx, qgy]
 refine qT 9 (v := ?_) ?_ ?_
 rotate_left
 · intro w hSw; (try dsimp only at hSw); go_simp; try with_reducible rfl
 try simp only [qga, qgz, qgs, Act.put, qgt, qgx, qgy]
 refine qT 10 (v := ?_) ?_ ?_
 rotate_left
 · intro w hSw; (try dsimp only at hSw); go_simp; try with_reducible rfl
 try simp only [qga, qgz, qgs, Act.put, qgt, qgx, qgy]
 refine qT 11 (v := ?_) ?_ ?_
 rotate_left
 · intro w hSw; (try dsimp only at hSw); go_simp; try with_reducible rfl
 try simp only [qga, qgz, qgs, Act.put, qgt, qgx, qgy]
 refine qT 12 (v := ?_) ?_ ?_
 rotate_left
 · intro w hSw; (try dsimp only at hSw); go_simp; try with_reducible rfl
 try simp only [qga, qgz, qgs, Act.put, qgt, qgx, qgy]
 refine qT 14 (v := ?_) ?_ ?_
 rotate_left
 · intro w hSw; (try dsimp only at hSw); go_simp; try with_reducible rfl
 try simp only [qga, qgz, qgs, Act.put, qgt, qgx, qgy]
 refine qT 15 (v := ?_) ?_ ?_
 rotate_left
 · intro w hSw; (try dsimp only at hSw); go_simp; try with_reducible rfl
 try simp only [qga, qgz, qgs, Act.put, qgt, qgx, qgy]
 refine qT 16 (v := ?_) ?_ ?_
 rotate_left
 · intro w hSw; (try dsimp only at hSw); go_simp; try with_reducible rfl
 try simp only [qga, qgz, qgs, Act.put, qgt, qgx, qgy]
 refine qT 17 (v := ?_) ?_ ?_
 rotate_left
 · intro w hSw; (try dsimp only at hSw); go_simp; try with_reducible rfl
 try simp only [qga, qgz, qgs, Act.put, qgt, qgx, qgy]
 refine qT 18 (v := ?_) ?_ ?_
 rotate_left
 · intro w hSw; (try dsimp only at hSw); go_simp; try with_reducible rfl
 try simp only [qga, qgz, qgs, Act.put, qgt, qgx, qgy]
 refine qT 19 (v := ?_) ?_ ?_
 rotate_left
 · intro w hSw; (try dsimp only at hSw); go_simp; try with_reducible rfl
 try simp only [qga, qgz, qgs, Act.put, qgt, qgx, qgy]
 refine qT 20 (v := ?_) ?_ ?_
 rotate_left
 · intro w hSw; (try dsimp only at hSw); go_simp; try with_reducible rfl
 try simp only [qga, qgz, qgs, Act.put, qgt, qgx, qgy]
 refine qT 21 (v := ?_) ?_ ?_
 rotate_left
 · intro w hSw; (try dsimp only at hSw); go_simp; try with_reducible rfl
 try simp only [qga, qgz, qgs, Act.put, qgt, qgx, qgy]
 refine qT 22 (v := ?_) ?_ ?_
 rotate_left
 · intro w hSw; (try dsimp only at hSw); go_simp; try with_reducible rfl
 try simp only [qga, qgz, qgs, Act.put, qgt, qgx, qgy]
 refine qT 23 (v := ?_) ?_ ?_
 rotate_left
 · intro w hSw; (try dsimp only at hSw); go_simp; try with_reducible rfl
 try simp only [qga, qgz, qgs, Act.put, qgt, qgx, qgy]
 refine qT 24 (v := ?_) ?_ ?_
 rotate_left
 · intro w hSw; (try dsimp only at hSw); go_simp; try with_reducible rfl
 try simp only [qga, qgz, qgs, Act.put, qgt, qgx, qgy]
 refine wpAnyH_ready (rs := [13, 25]) (by kernel_rfl) (by simp) ?_
 refine AllReadyH.cons rfl (fun K hK => ?_) (AllReadyH.cons rfl (fun K hK => ?_) AllReadyH.nil)
 go_simp
 refine hK.out _ _ (by (try dsimp only); (first | go_keep | (go_split_ands; exact ⟨by rw [hg8.cell_far _ (by simp; omega) nL]; assumption, by rw [hg8.cell_far _ (by simp; omega) nL]; assumption, by rw [hg8.cell_far _ (by simp; omega) nL]; assumption⟩) | (go_split_ands; exact ⟨by rw [cell_setOther' _ _ mL]; assumption, by rw [cell_setOther' _ _ mL]; assumption, by rw [cell_setOther' _ _ mL]; assumption⟩))) (fun hHeld => ?_)
 clear hK K
 try simp only [qga, qgz, qgs, Act.put, qgt, qgx, qgy]
 refine wpAnyH_ready (rs := [25]) (by kernel_rfl) (by simp) ?_
 refine AllReadyH.cons rfl (fun K hK => ?_) AllReadyH.nil
 go_simp
 refine hK.out _ _ (by (try dsimp only); (first | go_keep | (go_split_ands; exact ⟨by rw [hg8.cell_far _ (by simp; omega) nL]; assumption, by rw [hg8.cell_far _ (by simp; omega) nL]; assumption, by rw [hg8.cell_far _ (by simp; omega) nL]; assumption⟩) | (go_split_ands; exact ⟨by rw [cell_setOther' _ _ mL]; assumption, by rw [cell_setOther' _ _ mL]; assumption, by rw [cell_setOther' _ _ mL]; assumption⟩))) (fun hHeld => ?_)
 clear hK K
 try simp only [qga, qgz, qgs, Act.put, qgt, qgx, qgy]
 refine wpAnyH_ready (rs := [26]) (by kernel_rfl) (by simp) ?_
 refine AllReadyH.cons rfl (fun K hK => ?_) AllReadyH.nil
 (refine step_lies rfl _ _ _ (by rfl) rowS (by simp; omega) (by rfl) (World.ownsRow.drew (hown.alloc _)) ⟨wr.heap.size, 0, none⟩ 1 1 [.int .i64 x2, .int .i64 x3] (by rfl) (by rfl) (cells2 (by simp [go_sem]) (by simp [go_sem])) (by simp [Value.oneCell']) (by decide) (by omega) (by unfold maxLen; omega) wr.heap.size (by simp) ?_; intro g cap w8 hown8 hg8 hat8 hlt8; have kp := HGO.out _ w8 g cap (outsOf (L.take k) (kn : Int) ++ [(x2, x3)]) (((Below.refl _ _).alloc (Nat.le_refl _) _).drew) (by rw [List.length_append, List.flatMap_append]; exact hown8) hg8 (hat8.imp_right (fun e => by omega)); have kp0 := kp.1; have kp1 := kp.2.1; have KP := hid kp.2.2; clear kp)
 refine hK.out _ _ (by (try dsimp only); (first | go_keep | (go_split_ands; exact ⟨by rw [hg8.cell_far _ (by simp; omega) nL]; assumption, by rw [hg8.cell_far _ (by simp; omega) nL]; assumption, by rw [hg8.cell_far _ (by simp; omega) nL]; assumption⟩) | (go_split_ands; exact ⟨by rw [cell_setOther' _ _ mL]; assumption, by rw [cell_setOther' _ _ mL]; assumption, by rw [cell_setOther' _ _ mL]; assumption⟩))) (fun hHeld => ?_)
 clear hK K
 try simp only [qga, qgz, qgs, Act.put, qgt, qgx, qgy]
 refine qT 27 (v := ?_) ?_ ?_
 rotate_left
 · intro w hSw; (try dsimp only at hSw); go_simp; try with_reducible rfl
 try simp only [qga, qgz, qgs, Act.put, qgt, qgx, qgy]
 refine wpAnyH_ready (rs := [28]) (by kernel_rfl) (by simp) ?_
 refine AllReadyH.cons rfl (fun K hK => ?_) AllReadyH.nil
 go_simp
 refine hK.out _ _ (by (try dsimp only); (first | go_keep | (go_split_ands; exact ⟨by rw [hg8.cell_far _ (by simp; omega) nL]; assumption, by rw [hg8.cell_far _ (by simp; omega) nL]; assumption, by rw [hg8.cell_far _ (by simp; omega) nL]; assumption⟩) | (go_split_ands; exact ⟨by rw [cell_setOther' _ _ mL]; assumption, by rw [cell_setOther' _ _ mL]; assumption, by rw [cell_setOther' _ _ mL]; assumption⟩))) (fun hHeld => ?_)
 clear hK K
 try simp only [qga, qgz, qgs, Act.put, qgt, qgx, qgy]
 refine wpAnyH_done (by kernel_rfl) ?_ _
 rotate_left
 go_simp
 refine hK.out _ _ (by (try dsimp only); (first | go_keep | (go_split_ands; exact ⟨by rw [hg8.cell_far _ (by simp; omega) nL]; assumption, by rw [hg8.cell_far _ (by simp; omega) nL]; assumption, by rw [hg8.cell_far _ (by simp; omega) nL]; assumption⟩) | (go_split_ands; exact ⟨by rw [cell_setOther' _ _ mL]; assumption, by rw [cell_setOther' _ _ mL]; assumption, by rw [cell_setOther' _ _ mL]; assumption⟩))) (fun hHeld => ?_)
 clear hK K
 try simp only [qga, qgz, qgs, Act.put, qgt, qgx, qgy]
 refine wpAnyH_ready (rs := [13]) (by kernel_rfl) (by simp) ?_
 refine AllReadyH.cons rfl (fun K hK => ?_) AllReadyH.nil
 go_simp
 refine hK.out _ _ (by (try dsimp only); (first | go_keep | (go_split_ands; exact ⟨by rw [hg8.cell_far _ (by simp; omega) nL]; assumption, by rw [hg8.cell_far _ (by simp; omega) nL]; assumption, by rw [hg8.cell_far _ (by simp; omega) nL]; assumption⟩) | (go_split_ands; exact ⟨by rw [cell_setOther' _ _ mL]; assumption, by rw [cell_setOther' _ _ mL]; assumption, by rw [cell_setOther' _ _ mL]; assumption⟩))) (fun hHeld => ?_)
 clear hK K
 try simp only [qga, qgz, qgs, Act.put, qgt, qgx, qgy]
 refine wpAnyH_ready (rs := [26]) (by kernel_rfl) (by simp) ?_
 refine AllReadyH.cons rfl (fun K hK => ?_) AllReadyH.nil
 (refine step_lies rfl _ _ _ (by rfl) rowS (by simp; omega) (by rfl) (World.ownsRow.drew (hown.alloc _)) ⟨wr.heap.size, 0, none⟩ 1 1 [.int .i64 x2, .int .i64 x3] (by rfl) (by rfl) (cells2 (by simp [go_sem]) (by simp [go_sem])) (by simp [Value.oneCell']) (by decide) (by omega) (by unfold maxLen; omega) wr.heap.size (by simp) ?_; intro g cap w8 hown8 hg8 hat8 hlt8; have kp := HGO.out _ w8 g cap (outsOf (L.take k) (kn : Int) ++ [(x2, x3)]) (((Below.refl _ _).alloc (Nat.le_refl _) _).drew) (by rw [List.length_append, List.flatMap_append]; exact hown8) hg8 (hat8.imp_right (fun e => by omega)); have kp0 := kp.1; have kp1 := kp.2.1; have KP := hid kp.2.2; clear kp)
 refine hK.out _ _ (by (try dsimp only); (first | go_keep | (go_split_ands; exact ⟨by rw [hg8.cell_far _ (by simp; omega) nL]; assumption, by rw [hg8.cell_far _ (by simp; omega) nL]; assumption, by rw [hg8.cell_far _ (by simp; omega) nL]; assumption⟩) | (go_split_ands; exact ⟨by rw [cell_setOther' _ _ mL]; assumption, by rw [cell_setOther' _ _ mL]; assumption, by rw [cell_setOther' _ _ mL]; assumption⟩))) (fun hHeld => ?_)
 clear hK K
 try simp only [qga, qgz, qgs, Act.put, qgt, qgx, qgy]
 refine qT 27 (v := ?_) ?_ ?_
 rotate_left
 · intro w hSw; (try dsimp only at hSw); go_simp; try with_reducible rfl
 try simp only [qga, qgz, qgs, Act.put, qgt, qgx, qgy]
 refine wpAnyH_ready (rs := [28]) (by kernel_rfl) (by simp) ?_
 refine AllReadyH.cons rfl (fun K hK => ?_) AllReadyH.nil
 go_simp
 refine hK.out _ _ (by (try dsimp only); (first | go_keep | (go_split_ands; exact ⟨by rw [hg8.cell_far _ (by simp; omega) nL]; assumption, by rw [hg8.cell_far _ (by simp; omega) nL]; assumption, by rw [hg8.cell_far _ (by simp; omega) nL]; assumption⟩) | (go_split_ands; exact ⟨by rw [cell_setOther' _ _ mL]; assumption, by rw [cell_setOther' _ _ mL]; assumption, by rw [cell_setOther' _ _ mL]; assumption⟩))) (fun hHeld => ?_)
 clear hK K
 try simp only [qga, qgz, qgs, Act.put, qgt, qgx, qgy]
 refine wpAnyH_done (by kernel_rfl) ?_ _
 all_goals (
 have hstep : ∀ i : Nat, (if i = kn then outsOf (L.take k) (kn : Int) ++ [(x2, x3)] else outsOf (L.take k) (i : Int)) = outsOf (L.take (k + 1)) (i : Int) := fun i => by (
 rw [take_snoc hXY.out, outsOf_snoc]
 by_cases hi : i = kn
 · subst hi; rw [if_pos rfl, if_pos rfl]
 · rw [if_neg hi, if_neg (by simp only; omega)])
 have H1 := hid (KP.out.congr hstep)
 rw [List.length_append] at H1
 clear hstep KP hown hown8 hg8 hat8 hlt8 kp0 kp1 nL mL
 go_wp2
 go_roundw
 case rel => exact ⟨k + 1, by go_num, by omega, H1.out⟩
 case measure => simp [intOf]; omega))
 · (
 obtain rfl : k = L.length := by omega
 have hf : OW w1 wr ob n (fun p => s.norm.outs (p : Int)) := HO.out.congr (fun i => by rw [List.take_length, HL.out]; rfl)
 have HF := hid hf
 clear hf HO
 go_wp2
 go_ret
 exact ⟨ob, n, w1.heap.size, HN.out, rfl, HF.out.rows, hob2, HBW.out.trans (HF.out.bel.mono hob2)⟩))
end Go.Proofs.YtgikimbafakmcaaGreatDoor
