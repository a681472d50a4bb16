/-
  Lemmas.
-/
import Derived.Test.YtgikimbafakmcaaGreatDoorGLaidQun
import Derived.Test.YtgikimbafakmcaaGreatDoorGUniZ
open List renaming getElem_toArray -> qga, getElem_cons_zero -> qgz, getElem_cons_succ -> qgs, setIfInBounds_toArray -> qgt, set_cons_zero -> qgx, set_cons_succ -> qgy
set_option maxRecDepth 100000
namespace Go.Proofs.YtgikimbafakmcaaGreatDoor
open Go.RowKit Pl
open Lib (hid)
def SortPost (xs : List E) (w : World) (e : Ending) (w' : World) : Prop :=
  ∃ a1 c1, e = .returned (.slice a1 (nf ltE xs).length c1) /\ w'.ownsRow w.heap.size 57 3 (.slice a1 (nf ltE xs).length c1) (nf ltE xs).length ((nf ltE xs).flatMap encE) /\ Below w.heap.size w w'
structure MW (w2 wr : World) (out : List E) (v : Value) : Prop where
  own : wr.ownsRow w2.heap.size 57 3 v out.length (out.flatMap encE)
  bel : Below w2.heap.size w2 wr
theorem MW.call {w2 wr w' : World} {out : List E} {v : Value} (h : MW w2 wr out v) (hB : Below wr.heap.size wr w') : MW w2 w' out v :=
  ⟨own_below h.own hB, h.bel.trans (hB.mono h.bel.size)⟩
theorem MW.set {w2 wr : World} {out : List E} {v : Value} (h : MW w2 wr out v) {p : Addr} (hp : w2.heap.size <= p.block) (hn : v.ownBlock ≠ some p.block) (x : Value) : MW w2 (wr.setCell p x) out v := by
 refine ⟨⟨h.own.1, ?_⟩, h.bel.setCell hp _⟩
 rcases h.own.2 with h1 | ⟨g, cap, cur, hv, hg, hh, r⟩
 · exact .inl h1
 · refine .inr ⟨g, cap, cur, hv, hg, ?_, r⟩
   rw [Below.heap_setCell _ _ _ _ (fun e => hn (by rw [hv, <- e]; rfl))]
   exact hh
theorem MW.push {w2 wr w1 : World} {out ys : List E} {v v' : Value} (h : MW w2 wr out v) (hown : w1.ownsRow w2.heap.size 57 3 v' ys.length (ys.flatMap encE)) (hg : wr.grownBy w1 v.ownBlock) : MW w2 w1 ys v' :=
  ⟨hown, h.bel.grown hg h.bel.size (fun k hk => (h.own.lt k hk).1)⟩
theorem MW.drewN {w2 wr : World} {out : List E} {v : Value} (h : MW w2 wr out v) (n : Nat) : MW w2 (wr.drewN n) out v := h.call (bdrew (Below.refl _ _))
theorem MW.after {w2 wr : World} {out : List E} {v : Value} (h : MW w2 wr out v) (n : Nat) (o : Obj) : MW w2 ((wr.drewN n).alloc o) out v := (h.drewN n).call ((Below.refl _ _).alloc (Nat.le_refl _) o)
theorem newE {w : World} {b : Nat} {t : TypeId} {e : E} (h : w.heap[b]? = some (.cells #[.int .i64 e.1, .int .i64 e.2.1, .int .i64 e.2.2] t (0, 0))) :
    ∀ j u, [Value.int .i64 e.1, .int .i64 e.2.1, .int .i64 e.2.2][j]? = some u -> w.cell? ((⟨b, 0, none⟩ : Addr).add j) = some u :=
  cells3 (by simp [World.cell?, h]) (by simp [World.cell?, h]) (by simp [World.cell?, h])
theorem slAt_drop {w : World} {b off h : Nat} {xs : List E} (hS : SlAt encE 3 w (some ⟨b, off, none⟩) b off xs) : SlAt encE 3 w (some ⟨b, off + h * 3, none⟩) b (off + h * 3) (xs.drop h) :=
  ⟨fun _ => rfl, fun hp => hS.lt (by simp at hp; omega), fun i x hx j u hu => by
    rw [List.getElem?_drop] at hx
    have := hS.cell (h + i) x hx j u hu
    rw [show off + h * 3 + i * 3 + j = off + (h + i) * 3 + j by omega]
    exact this⟩
theorem slAt_take {w : World} {a : Option Addr} {b off h : Nat} {xs : List E} (hS : SlAt encE 3 w a b off xs) : SlAt encE 3 w a b off (xs.take h) :=
  ⟨fun hp => hS.ad (by simp at hp; omega), fun hp => hS.lt (by simp at hp; omega), fun i x hx j u hu => hS.cell i x (by
    rw [List.getElem?_take] at hx
    split at hx
    · exact hx
    · cases hx) j u hu⟩
theorem slAt_flatG {α : Type} {enc : α -> List Value} {k : Nat} {w : World} {a : Option Addr} {ad : Addr} {b off : Nat} {xs : List α} (hk : ∀ x, (enc x).length = k) (h1 : ∀ x, ∀ u ∈ enc x, u.oneCell' = true) (hS : SlAt enc k w a b off xs) (ha : a = some ad) :
    (∀ j u, (xs.flatMap enc)[j]? = some u -> w.cell? (ad.add j) = some u) /\ (∀ u ∈ xs.flatMap enc, u.oneCell' = true) /\ (xs.flatMap enc).length = xs.length * k := by
 refine ⟨fun j u hu => ?_, fun u hu => ?_, length_flatMap hk xs⟩
 · (
 have hp : 0 < xs.length := by (
 rcases Nat.eq_zero_or_pos xs.length with h | h
 · rw [List.eq_nil_of_length_eq_zero h] at hu; simp at hu
 · exact h)
 have had := hS.ad hp
 rw [ha] at had
 cases had
 exact slAt_flat hk hS j u hu)
 · obtain ⟨y, _, hy⟩ := List.mem_flatMap.1 hu
   exact h1 y u hy
theorem oneE (x : E) : ∀ u ∈ encE x, u.oneCell' = true := by intro u hu; simp [encE] at hu; rcases hu with rfl | rfl | rfl <;> rfl
theorem refSorted_short {w : World} {a : Option Addr} {b off c : Nat} {xs : List E} (hS : SlAt encE 3 w a b off xs) (h2 : xs.length < 2) :
    Calls Tryz.prog 134 #[.slice a xs.length c] w (SortPost xs w) := by
 have hnf := nf_short h2
 have hi : (xs.length : Int) < 2 := by omega
 have HNF := hid hnf; have HS := hid hS
 clear hnf hS
 cases a with
 | none =>
   have h0 : xs = [] := by
     rcases Nat.eq_zero_or_pos xs.length with h | h
     · exact List.eq_nil_of_length_eq_zero h
     · have := HS.out.ad h; cases this
   subst h0
   go_enter Tryz.func134, Tryz.ntmps134
   go_wp2
   go_ret
   exact ⟨none, 0, rfl, World.ownsRow_nil _ _ _ _, Below.refl _ _⟩
 | some ad =>
   obtain ⟨hx, h1, hl⟩ := slAt_flatG lenE oneE HS.out rfl
   obtain ⟨n, hnn⟩ : ∃ n, n = xs.length := ⟨_, rfl⟩
   rw [<- hnn] at hl h2 hi ⊢
   have HX := hid hx; have H1 := hid h1; have HL := hid hl; have HNN := hid hnn
   clear hx h1 hl hnn
   go_enter Tryz.func134, Tryz.ntmps134
   go_wp2_with (at_builtin; go_must (refine wpList_app rfl _ _ _ rfl rowE (Below.refl w.heap.size w) (Nat.le_refl _) rfl (World.ownsRow_nil _ _ _ _) ad n c (xs.flatMap encE) rfl HL.out HX.out H1.out (by omega) (by unfold maxLen; omega) ?_); intro v' w1 hown1 hB1 _; have HO1 := hid hown1; have HB1 := hid hB1; clear hown1 hB1)
   go_ret
   have ho := HO1.out
   rw [Nat.zero_add, List.nil_append, HNN.out] at ho
   obtain ⟨a1, c1, b1, rfl, _⟩ := slAt_own lenE ho
   exact ⟨a1, c1, by rw [HNF.out]; rfl, by rw [HNF.out]; exact ho, HB1.out⟩
structure ZeroE (W : World) (sb : Nat) : Prop where
  blk : W.heap[sb]? = some (.cells #[.int .i64 0, .int .i64 0, .int .i64 0] 57 (0, 0))
theorem ZeroE.lt {W : World} {sb : Nat} (h : ZeroE W sb) : sb < W.heap.size := (Array.getElem?_eq_some_iff.1 h.blk).1
theorem ZeroE.c0 {W : World} {sb : Nat} (h : ZeroE W sb) : W.cell? ⟨sb, 0, none⟩ = some (.int .i64 0) := by simp [World.cell?, h.blk]
theorem ZeroE.c1 {W : World} {sb : Nat} (h : ZeroE W sb) : W.cell? ⟨sb, 1, none⟩ = some (.int .i64 0) := by simp [World.cell?, h.blk]
theorem ZeroE.c2 {W : World} {sb : Nat} (h : ZeroE W sb) : W.cell? ⟨sb, 2, none⟩ = some (.int .i64 0) := by simp [World.cell?, h.blk]
theorem ZeroE.fz {W : World} {sb : Nat} (h : ZeroE W sb) (j : Nat) : W.frozen? ⟨sb, j, none⟩ = false := by simp [World.frozen?, h.blk]
theorem ZeroE.below {W W' : World} {sb : Nat} (h : ZeroE W sb) (hB : Below W.heap.size W W') : ZeroE W' sb :=
  ⟨by rw [hB.block _ h.lt]; exact h.blk⟩
theorem belowStep {w0 w w' : World} (h : Below w0.heap.size w0 w) (hB : Below w.heap.size w w') : Below w0.heap.size w0 w' := h.trans (hB.mono h.size)
def PickR (A B : List E) (i k : Nat) (W8 : World) (s57 : Value) (wx : World) : Prop :=
  ∃ tA : Bool, s57 = .bool tA /\ (tA = true -> ∃ e, A[i]? = some e /\ ∀ y ∈ B.drop k, ltE y e = false) /\ (tA = false -> ∃ e, B[k]? = some e /\ ∀ y ∈ A.drop i, ltE y e = false) /\ Below W8.heap.size W8 wx
structure EdgeIn (W : World) (sb : Nat) (e : E) : Prop where
  blk : W.heap[sb]? = some (.cells #[.int .i64 e.1, .int .i64 e.2.1, .int .i64 e.2.2] 57 (0, 0))
theorem EdgeIn.lt {W : World} {sb : Nat} {e : E} (h : EdgeIn W sb e) : sb < W.heap.size := (Array.getElem?_eq_some_iff.1 h.blk).1
theorem EdgeIn.c0 {W : World} {sb : Nat} {e : E} (h : EdgeIn W sb e) : W.cell? ⟨sb, 0, none⟩ = some (.int .i64 e.1) := by simp [World.cell?, h.blk]
theorem EdgeIn.c1 {W : World} {sb : Nat} {e : E} (h : EdgeIn W sb e) : W.cell? ⟨sb, 1, none⟩ = some (.int .i64 e.2.1) := by simp [World.cell?, h.blk]
theorem EdgeIn.c2 {W : World} {sb : Nat} {e : E} (h : EdgeIn W sb e) : W.cell? ⟨sb, 2, none⟩ = some (.int .i64 e.2.2) := by simp [World.cell?, h.blk]
theorem ZeroE.set {W : World} {sb : Nat} (h : ZeroE W sb) (e : E) : EdgeIn (((W.setCell ⟨sb, 0, none⟩ (.int .i64 e.1)).setCell ⟨sb, 1, none⟩ (.int .i64 e.2.1)).setCell ⟨sb, 2, none⟩ (.int .i64 e.2.2)) sb e :=
  ⟨heap_setCell_same _ sb 2 _ _ _ (heap_setCell_same _ sb 1 _ _ _ (heap_setCell_same _ sb 0 _ _ _ h.blk))⟩
def NextR (A B out : List E) (i k la lb : Nat) (w2 : World) (v : Value) (sb : Nat) (s6 s7 : Value) (wx : World) : Prop :=
  ∃ (i' k' : Nat) (e : E), s6 = .int .i64 i' /\ s7 = .int .i64 k' /\ i' + k' = i + k + 1 /\ i <= i' /\ k <= k' /\ i' <= la /\ k' <= lb /\ Mrg A B (pushL out e) i' k' /\ MW w2 wx out v /\ EdgeIn wx sb e
theorem last_get {α : Type} {l : List α} {m : Nat} (h : l.length = m + 1) : l.getLast? = l[m]? := by
 rw [List.getLast?_eq_getElem?, h]; rfl
set_option maxHeartbeats 8000000 in
theorem refSorted_step {w : World} {b off c : Nat} {xs : List E} (hS : SlAt encE 3 w (some ⟨b, off, none⟩) b off xs) (h2 : 2 <= xs.length) (hc : xs.length <= c) (hcm : c <= maxLen) (hl : xs.length <= 20000)
    (ih : ∀ (W : World) (a : Option Addr) (b off c : Nat) (ys : List E), ys.length < xs.length -> SlAt encE 3 W a b off ys -> ys.length <= c -> c <= maxLen -> Calls Tryz.prog 134 #[.slice a ys.length c] W (SortPost ys W)) :
    Calls Tryz.prog 134 #[.slice (some ⟨b, off, none⟩) xs.length c] w (SortPost xs w) := by
 obtain ⟨n, hnn⟩ : ∃ n, n = xs.length := ⟨_, rfl⟩
 obtain ⟨h, hhh⟩ : ∃ h, h = n / 2 := ⟨_, rfl⟩
 have h1 : 1 <= h := by omega
 have hlt : h < n := by omega
 have c1 : ∀ W, Below w.heap.size w W -> Calls Tryz.prog 134 #[.slice (some ⟨b, off, none⟩) h c] W fun e w' => SortPost (xs.take h) W e w' /\ Below w.heap.size w w' := fun W hW => by (
 have q := ih W (some ⟨b, off, none⟩) b off c (xs.take h) (by simp; omega) (slAt_take (hS.below hW (Nat.le_refl _))) (by simp; omega) hcm
 rw [show (xs.take h).length = h by simp; omega] at q
 refine q.mono ?_
 intro e w' hp
 obtain ⟨a1, c1, _, _, hB⟩ := id hp
 exact ⟨hp, hW.trans (hB.mono hW.size)⟩)
 have c2 : ∀ W, Below w.heap.size w W -> Calls Tryz.prog 134 #[.slice (some ⟨b, off + h * 3, none⟩) (n - h) (c - h)] W fun e w' => SortPost (xs.drop h) W e w' /\ Below w.heap.size w w' := fun W hW => by (
 have q := ih W (some ⟨b, off + h * 3, none⟩) b (off + h * 3) (c - h) (xs.drop h) (by simp; omega) (slAt_drop (hS.below hW (Nat.le_refl _))) (by simp; omega) (by omega)
 rw [show (xs.drop h).length = n - h by simp; omega] at q
 refine q.mono ?_
 intro e w' hp
 obtain ⟨a1, c1, _, _, hB⟩ := id hp
 exact ⟨hp, hW.trans (hB.mono hW.size)⟩)
 obtain ⟨o2, ho2⟩ : ∃ o2, o2 = off + h * 3 := ⟨_, rfl⟩
 obtain ⟨n2, hn2⟩ : ∃ n2, n2 = n - h := ⟨_, rfl⟩
 obtain ⟨k2, hk2⟩ : ∃ k2, k2 = c - h := ⟨_, rfl⟩
 rw [<- ho2, <- hn2, <- hk2] at c2
 have HN2 := hid hn2
 have p1 := ho2.symm; have p2 := hn2.symm; have p3 := hk2.symm
 clear ho2 hn2 hk2
 have C1 := hid c1; have C2 := hid c2; have HNN := hid hnn; have HHH := hid hhh
 rw [<- hnn] at h2 hc hl ⊢
 have hq : (n : Int) / 2 = (h : Int) := by omega
 have hi : ¬ (n : Int) < 2 := by omega
 have hne : ¬ c = h := by omega
 have hhc : h <= c := by omega
 have hdr : Below w.heap.size w w.drew := (Below.refl _ _).drew
 unfold maxLen at hcm
 have q2 : IntKind.i64.wrap (h : Int) = (h : Int) := IntWalk.i64_in _ (by omega)
 have q3 : (n : Int).tdiv 2 = (h : Int) := by rw [Int.tdiv_eq_ediv_of_nonneg (by omega)]; exact hq
 have g1 : (0 : Int) <= (h : Int) := by omega
 have g2 : (h : Int) <= (c : Int) := by omega
 have g3 : (h : Int) <= (n : Int) := by omega
 have g4 : ((h : Int)).toNat = h := by omega
 have hc0 : ¬ c = 0 := by omega
 clear c1 c2 hnn hhh ih hS
 go_enter Tryz.func134, Tryz.ntmps134
 go_wp2_with fail
 refine wp_region_held_drew (S := fun w' => Below w.heap.size w w') (by kernel_rfl) (Below.refl _ _).drew (fun hHeld => ?_)
 refine qT 0 (v := ?_) ?_ ?_
 rotate_left
 · intro w hSw; (try dsimp only at hSw); go_simp; try with_reducible rfl
 try simp only [qga, qgz, Act.put, qgt, qgx, qgy]
 refine qT 1 (v := ?_) ?_ ?_
 rotate_left
 · intro w hSw; (try dsimp only at hSw); go_simp; try with_reducible rfl
 try simp only [qga, qgz, qgs, Act.put, qgt, qgx, qgy]
 refine qT 2 (v := ?_) ?_ ?_
 rotate_left
 · intro w hSw; (try dsimp only at hSw); go_simp; try with_reducible rfl
 try simp only [qga, qgz, qgs, Act.put, qgt, qgx, qgy]
 refine qT 3 (v := ?_) ?_ ?_
 rotate_left
 · intro w hSw; (try dsimp only at hSw); go_simp; try with_reducible rfl
 try simp only [qga, qgz, qgs, Act.put, qgt, qgx, qgy]
 refine qT 4 (v := ?_) ?_ ?_
 rotate_left
 · intro w hSw; (try dsimp only at hSw); go_simp; try with_reducible rfl
 try simp only [qga, qgz, qgs, Act.put, qgt, qgx, qgy]
 refine qT 6 (v := ?_) ?_ ?_
 rotate_left
 · intro w hSw; (try dsimp only at hSw); go_simp; try with_reducible rfl
 try simp only [qga, qgz, qgs, Act.put, qgt, qgx, qgy]
 refine qT 7 (v := ?_) ?_ ?_
 rotate_left
 · intro w hSw; (try dsimp only at hSw); go_simp; try with_reducible rfl
 try simp only [qga, qgz, qgs, Act.put, qgt, qgx, qgy]
 refine qT 8 (v := ?_) ?_ ?_
 rotate_left
 · intro w hSw; (try dsimp only at hSw); go_simp; try with_reducible rfl
 try simp only [qga, qgz, qgs, Act.put, qgt, qgx, qgy]
 refine qT 9 (v := ?_) ?_ ?_
 rotate_left
 · intro w hSw; (try dsimp only at hSw); go_simp; try with_reducible rfl
 try simp only [qga, qgz, qgs, Act.put, qgt, qgx, qgy]
 refine qT 10 (v := ?_) ?_ ?_
 rotate_left
 · intro w hSw; (try dsimp only at hSw); go_simp; try with_reducible rfl
 try simp only [qga, qgz, qgs, Act.put, qgt, qgx, qgy]
 refine wpAnyH_ready (rs := [5]) (by kernel_rfl) (by simp) ?_
 refine AllReadyH.cons rfl (fun K hK => ?_) AllReadyH.nil
 go_simp
 go_at_call 134
 refine (C1.out _ hHeld).mono ?_
 rintro e w1 ⟨⟨a1, c1, rfl, hown1, hB1⟩, hW1⟩
 refine hK.out _ _ hW1 (fun hHeld => ?_)
 clear hK K
 try simp only [qga, qgz, qgs, Act.put, qgt, qgx, qgy]
 refine wpAnyH_ready (rs := [11]) (by kernel_rfl) (by simp) ?_
 refine AllReadyH.cons rfl (fun K hK => ?_) AllReadyH.nil
 go_simp
 go_at_call 134
 refine (C2.out _ hW1).mono ?_
 rintro e w2 ⟨⟨a2, c2, rfl, hown2, hB2⟩, hW2⟩
 refine hK.out _ _ hW2 (fun hHeld => ?_)
 clear hK K
 try simp only [qga, qgz, qgs, Act.put, qgt, qgx, qgy]
 refine qT 12 (v := ?_) ?_ ?_
 rotate_left
 · intro w hSw; (try dsimp only at hSw); go_simp; try with_reducible rfl
 try simp only [qga, qgz, qgs, Act.put, qgt, qgx, qgy]
 refine qT 13 (v := ?_) ?_ ?_
 rotate_left
 · intro w hSw; (try dsimp only at hSw); go_simp; try with_reducible rfl
 try simp only [qga, qgz, qgs, Act.put, qgt, qgx, qgy]
 refine wpAnyH_done (by kernel_rfl) ?_ _
 obtain ⟨aa, ca, ba, hva, _, _, hA, _⟩ := slAt_own lenE hown1
 obtain ⟨ab, cb, bb, hvb, _, _, hBs, _⟩ := slAt_own lenE hown2
 simp only [Value.slice.injEq] at hva hvb
 obtain ⟨rfl, _, rfl⟩ := hva
 obtain ⟨rfl, _, rfl⟩ := hvb
 have hA2 := hA.below hB2 (Nat.le_refl _)
 obtain ⟨A, hAd⟩ : ∃ A, A = nf ltE (xs.take h) := ⟨_, rfl⟩
 obtain ⟨B, hBd⟩ : ∃ B, B = nf ltE (xs.drop h) := ⟨_, rfl⟩
 have hsA : Srt ltE A := by rw [hAd]; exact srt_nf stoE _
 have hsB : Srt ltE B := by rw [hBd]; exact srt_nf stoE _
 have hmAB : ∀ x, x ∈ xs ↔ x ∈ A ∨ x ∈ B := fun x => by rw [hAd, hBd]; exact half_mem xs h x
 have hlA : A.length <= h := by have := length_nf (lt := ltE) (xs.take h); rw [<- hAd] at this; simp at this; omega
 have hlB : B.length <= n - h := by have := length_nf (lt := ltE) (xs.drop h); rw [<- hBd] at this; simp at this; have := HNN.out; omega
 rw [<- hAd] at hA2
 rw [<- hBd] at hBs
 rw [<- hAd, <- hBd]
 have HA := hid hA2; have HBS := hid hBs; have HSA := hid hsA; have HSB := hid hsB; have HM := hid hmAB; have HW2 := hid hW2
 obtain ⟨la, hla⟩ : ∃ la, la = A.length := ⟨_, rfl⟩
 obtain ⟨lb, hlb⟩ : ∃ lb, lb = B.length := ⟨_, rfl⟩
 rw [<- hla] at hlA ⊢
 rw [<- hlb] at hlB ⊢
 have HLA := hid hla; have HLB := hid hlb
 have hla2 : la <= 20000 := by omega
 have hlb2 : lb <= 20000 := by omega
 have hs2 := hW2.size
 clear hA hown1 hown2 hB1 hB2 hA2 hBs hAd hBd hsA hsB hmAB hW1 hW2 hla hlb hdr hlA hlB C1 C2 hq hi hne hhc
 go_wp2_with fail
 go_loopw [5, 6, 7, 8] (fun v5 v6 v7 _ wr => ∃ (out : List E) (i k : Nat) (oa : Option Addr) (oc : Nat), v5 = .slice oa out.length oc /\ v6 = .int .i64 i /\ v7 = .int .i64 k /\ i <= la /\ k <= lb /\ out.length <= i + k /\ Mrg A B out i k /\ MW w2 wr out (.slice oa out.length oc))
   (fun _ v6 v7 _ _ => (la - (intOf v6).toNat) + (lb - (intOf v7).toNat))
 case atStart => exact ⟨[], 0, 0, none, 0, rfl, rfl, rfl, Nat.zero_le _, Nat.zero_le _, by simp, Mrg.nil A B, World.ownsRow_nil _ _ _ _, Below.refl _ _⟩
 case round => (
 obtain ⟨out, i, k, oa, oc, rfl, rfl, rfl, hi, hk, hol, hmg, hmw⟩ := hrel
 have HMG := hid hmg; have HMW := hid hmw
 have hsz := hmw.bel.size
 clear hmg hmw
 by_cases hend : la <= i /\ lb <= k
 · (
 obtain ⟨e1, e2⟩ := hend
 obtain rfl : i = la := by omega
 obtain rfl : k = lb := by omega
 go_wp2
 go_ret
 have hm := HMG.out
 rw [HLA.out, HLB.out] at hm
 have hd := hm.done HM.out
 have ho := HMW.out.own
 rw [hd] at ho
 exact ⟨oa, oc, by rw [hd]; rfl, own_mono ho hs2, HW2.out.trans (HMW.out.bel.mono hs2)⟩)
 · (
 have hcnd : decide ((i : Int) < (la : Int)) = true ∨ (decide ((i : Int) < (la : Int)) = false /\ decide ((k : Int) < (lb : Int)) = true) := by (
 by_cases h1 : i < la
 · left; simp; omega
 · right; constructor <;> simp <;> omega)
 have hown : Hid (MW w2 (wr.alloc (.cells #[.int .i64 0, .int .i64 0, .int .i64 0] 57)) out (.slice oa out.length oc)) := hid (HMW.out.call ((Below.refl _ _).alloc (Nat.le_refl _) _))
 have HAI : Hid (∀ W, Below wr.heap.size wr W -> ∀ e, A[i]? = some e -> a1 = some ⟨ba, 0, none⟩ /\ W.cell? ⟨ba, i * 3, none⟩ = some (.int .i64 e.1) /\ W.cell? ⟨ba, i * 3 + 1, none⟩ = some (.int .i64 e.2.1) /\ W.cell? ⟨ba, i * 3 + 2, none⟩ = some (.int .i64 e.2.2)) := hid (fun W hW e he => by (
 have hs := HA.out.below (HMW.out.bel.trans (hW.mono hsz)) (Nat.le_refl _)
 refine ⟨hs.ad (by have := (List.getElem?_eq_some_iff.1 he).1; omega), ?_, ?_, ?_⟩
 · have := hs.e0 he; simpa using this
 · have := hs.e1 he; simpa using this
 · have := hs.e2 he; simpa using this))
 have HBK : Hid (∀ W, Below wr.heap.size wr W -> ∀ e, B[k]? = some e -> a2 = some ⟨bb, 0, none⟩ /\ W.cell? ⟨bb, k * 3, none⟩ = some (.int .i64 e.1) /\ W.cell? ⟨bb, k * 3 + 1, none⟩ = some (.int .i64 e.2.1) /\ W.cell? ⟨bb, k * 3 + 2, none⟩ = some (.int .i64 e.2.2)) := hid (fun W hW e he => by (
 have hs := HBS.out.below (HMW.out.bel.trans (hW.mono hsz)) (Nat.le_refl _)
 refine ⟨hs.ad (by have := (List.getElem?_eq_some_iff.1 he).1; omega), ?_, ?_, ?_⟩
 · have := hs.e0 he; simpa using this
 · have := hs.e1 he; simpa using this
 · have := hs.e2 he; simpa using this))
 have HB0 : Hid (Below wr.heap.size wr (wr.alloc (.cells #[.int .i64 0, .int .i64 0, .int .i64 0] 57))) := hid ((Below.refl _ _).alloc (Nat.le_refl _) _)
 have hhead : (i < la /\ k < lb) ∨ (¬ k < lb /\ i < la /\ decide ((i : Int) < (la : Int)) = true) ∨ (¬ i < la /\ k < lb /\ decide ((i : Int) < (la : Int)) = false) := by
   by_cases h1 : i < la <;> by_cases h2 : k < lb <;> simp [h1, h2] <;> omega
 have HH := hid hhead
 clear hhead hend
 obtain ⟨sb, hsb⟩ : ∃ sb, sb = wr.heap.size := ⟨_, rfl⟩
 go_upto_region 6 with fail
 go_cut [35] from 26 to 86 (fun s35 wx => s35 = .bool true /\ wr = wx)
 case first => (
 rcases HH.out with ⟨q1, q2⟩ | ⟨q1, q2, q3⟩ | ⟨q1, q2, q3⟩
 · have hd : decide ((i : Int) < (la : Int)) = true := by simp; omega
   go_wp2_with fail
   go_meet
   exact ⟨rfl, rfl⟩
 · go_wp2_with fail
   go_meet
   exact ⟨rfl, rfl⟩
 · have hd : decide ((k : Int) < (lb : Int)) = true := by simp; omega
   go_wp2_with fail
   go_meet
   exact ⟨rfl, rfl⟩)
 case rest => (
 obtain ⟨rfl, rfl⟩ := hcut
 clear hcnd
 go_upto_region 8 with fail
 have hz0 : wr.heap.size < (wr.alloc (.cells #[.int .i64 0, .int .i64 0, .int .i64 0] 57)).heap.size := by simp
 obtain ⟨W8, hW8⟩ : ∃ W8, W8 = wr.alloc (.cells #[.int .i64 0, .int .i64 0, .int .i64 0] 57) := ⟨_, rfl⟩
 have HZ8 : Hid (ZeroE W8 wr.heap.size) := hid ⟨by rw [hW8]; exact heap_alloc_new wr _⟩
 rw [<- hW8] at hown HB0 ⊢
 have hWz : W8.heap.size = wr.heap.size + 1 := by rw [hW8]; simp
 have HWZ := hid hWz
 clear hz0 hW8 hWz
 go_cut [57] from 26 to 86 (fun s57 wx => PickR A B i k W8 s57 wx)
 case first => (
 rcases HH.out with ⟨q1, q2⟩ | ⟨q1, q2, q3⟩ | ⟨q1, q2, q3⟩
 · (
 obtain ⟨e, he⟩ := getElem?_of_lt (xs := A) (i := i) (by rw [<- HLA.out]; exact q1)
 obtain ⟨f, hf⟩ := getElem?_of_lt (xs := B) (i := k) (by rw [<- HLB.out]; exact q2)
 have hd : decide (lb <= k) = false := by simp; omega
 have hd2 : decide (i < la) = true := by simp; omega
 have KEEP : Hid (∀ W, Below W8.heap.size W8 W -> W.cell? ⟨ba, i * 3, none⟩ = some (.int .i64 e.1) /\ W.cell? ⟨ba, i * 3 + 1, none⟩ = some (.int .i64 e.2.1) /\ W.cell? ⟨ba, i * 3 + 2, none⟩ = some (.int .i64 e.2.2) /\
     W.cell? ⟨bb, k * 3, none⟩ = some (.int .i64 f.1) /\ W.cell? ⟨bb, k * 3 + 1, none⟩ = some (.int .i64 f.2.1) /\ W.cell? ⟨bb, k * 3 + 2, none⟩ = some (.int .i64 f.2.2) /\ Below W8.heap.size W8 W) := hid (fun W hW => by
   have hb := HB0.out.trans (hW.mono HB0.out.size)
   obtain ⟨_, x1, x2, x3⟩ := HAI.out W hb e he
   obtain ⟨_, y1, y2, y3⟩ := HBK.out W hb f hf
   exact ⟨x1, x2, x3, y1, y2, y3, hW⟩)
 obtain rfl := (HAI.out wr (Below.refl _ _) e he).1
 obtain rfl := (HBK.out wr (Below.refl _ _) f hf).1
 have hi1 : (i : Int) < (la : Int) := by omega
 have hk1 : (k : Int) < (lb : Int) := by omega
 obtain ⟨b0, hb0⟩ : ∃ b0, b0 = ltE f e := ⟨_, rfl⟩
 have CL : Hid (∀ W, Calls Tryz.prog 165 #[.agg #[.int .i64 f.1, .int .i64 f.2.1, .int .i64 f.2.2], .agg #[.int .i64 e.1, .int .i64 e.2.1, .int .i64 e.2.2]] W fun e w' => e = .returned (.bool b0) /\ Below W.heap.size W w') :=
   hid (fun W => by rw [hb0]; exact less_any f e W)
 have HE := hid he; have HF := hid hf; have HB1 := hid hb0
 have hS0 : Hid (Below W8.heap.size W8 W8.drew) := hid (Below.refl _ _).drew
 clear he hf hb0
 cases b0
 all_goals (
 go_region_held3 (fun W => W.cell? ⟨ba, i * 3, none⟩ = some (.int .i64 e.1) /\ W.cell? ⟨ba, i * 3 + 1, none⟩ = some (.int .i64 e.2.1) /\ W.cell? ⟨ba, i * 3 + 2, none⟩ = some (.int .i64 e.2.2) /\
   W.cell? ⟨bb, k * 3, none⟩ = some (.int .i64 f.1) /\ W.cell? ⟨bb, k * 3 + 1, none⟩ = some (.int .i64 f.2.1) /\ W.cell? ⟨bb, k * 3 + 2, none⟩ = some (.int .i64 f.2.2) /\ Below W8.heap.size W8 W)
   (first | (exact KEEP.out _ hS0.out) | (go_split_ands; exact KEEP.out _ (belowStep (by assumption) (by assumption))))
   ((go_at_call 165; refine (CL.out _).mono ?_; rintro e w' ⟨rfl, hB⟩))
 go_split_ands
 go_wp2_with fail
 go_meet)
 · exact ⟨true, rfl, fun _ => ⟨e, HE.out, notBelow HSB.out HF.out HB1.out.symm⟩, (by simp), by assumption⟩
 · exact ⟨false, rfl, (by simp), fun _ => ⟨f, HF.out, notBelow HSA.out HE.out (asymE HB1.out.symm)⟩, by assumption⟩)
 · (
 obtain ⟨e, he⟩ := getElem?_of_lt (xs := A) (i := i) (by rw [<- HLA.out]; exact q2)
 have hd : decide (lb <= k) = true := by simp; omega
 have HE := hid he
 clear he
 go_quiet (fail)
 go_wp2_with fail
 go_meet
 exact ⟨true, rfl, fun _ => ⟨e, HE.out, by rw [List.drop_of_length_le (by rw [<- HLB.out]; omega)]; simp⟩, (by simp), bdrew (Below.refl _ _)⟩)
 · (
 obtain ⟨e, he⟩ := getElem?_of_lt (xs := B) (i := k) (by rw [<- HLB.out]; exact q2)
 have hd : decide (lb <= k) = false := by simp; omega
 have hd2 : decide (i < la) = false := by simp; omega
 have HE := hid he
 clear he
 go_quiet (fail)
 go_wp2_with fail
 go_meet
 exact ⟨false, rfl, (by simp), fun _ => ⟨e, HE.out, by rw [List.drop_of_length_le (by rw [<- HLA.out]; omega)]; simp⟩, bdrew (Below.refl _ _)⟩))
 case rest => (
 obtain ⟨tA, rfl, hpA, hpB, hB8⟩ := hcut
 have HPA := hid hpA; have HPB := hid hpB; have HB8 := hid hB8
 have hsz8 := hB8.size
 have HZc := hid (HZ8.out.below hB8)
 have hfz := HZc.out.fz
 have fz0 := hfz 0; have fz1 := hfz 1; have fz2 := hfz 2
 have z0 := HZc.out.c0; have z1 := HZc.out.c1; have z2 := HZc.out.c2
 have zl := HZc.out.lt
 clear hpA hpB hB8 hfz
 go_upto_if 57 with fail
 go_cut [6, 7] from 26 to 86 (fun s6 s7 wx => NextR A B out i k la lb w2 (.slice oa out.length oc) wr.heap.size s6 s7 wx)
 case first => (
 have hmc : MW w2 wc out (.slice oa out.length oc) := hown.out.call HB8.out
 have hne : (Value.slice oa out.length oc).ownBlock ≠ some wr.heap.size := fun h => by have := (HMW.out.own.lt _ h).2; omega
 have HSET : Hid (∀ x y z : Value, MW w2 (((wc.setCell ⟨wr.heap.size, 0, none⟩ x).setCell ⟨wr.heap.size, 1, none⟩ y).setCell ⟨wr.heap.size, 2, none⟩ z) out (.slice oa out.length oc)) :=
   hid (fun x y z => ((hmc.set hsz hne x).set hsz hne y).set hsz hne z)
 clear hmc hne
 cases tA
 · (
 obtain ⟨e, he, hle⟩ := HPB.out rfl
 have hkl : k < lb := by rw [HLB.out]; exact (List.getElem?_eq_some_iff.1 he).1
 have hkl2 : (k : Int) < (lb : Int) := by omega
 obtain ⟨q0, y1, y2, y3⟩ := HBK.out wc (belowStep HB0.out (HWZ.out ▸ HB8.out)) e he
 subst q0
 have HE := hid he; have HLE := hid hle
 clear he hle
 go_wp2_with fail
 go_meet
 exact ⟨i, k + 1, e, rfl, by go_num, by omega, by omega, by omega, by omega, by omega, HMG.out.pushB HSB.out HE.out HLE.out, HSET.out _ _ _, HZc.out.set e⟩)
 · (
 obtain ⟨e, he, hle⟩ := HPA.out rfl
 have hil : i < la := by rw [HLA.out]; exact (List.getElem?_eq_some_iff.1 he).1
 have hil2 : (i : Int) < (la : Int) := by omega
 obtain ⟨q0, y1, y2, y3⟩ := HAI.out wc (belowStep HB0.out (HWZ.out ▸ HB8.out)) e he
 subst q0
 have HE := hid he; have HLE := hid hle
 clear he hle
 go_wp2_with fail
 go_meet
 exact ⟨i + 1, k, e, by go_num, rfl, by omega, by omega, by omega, by omega, by omega, HMG.out.pushA HSA.out HE.out HLE.out, HSET.out _ _ _, HZc.out.set e⟩))
 case rest => (
 obtain ⟨i', k', e, rfl, rfl, hsum, hi', hk', hil, hkl, hmg, hmw, hed⟩ := hcut
 clear fz0 fz1 fz2 z0 z1 z2 zl
 have e0 := hed.c0; have e1 := hed.c1; have e2 := hed.c2; have el := hed.lt
 have HMG2 := hid hmg; have HMW2 := hid hmw; have HED := hid hed; have HSUM := hid hsum
 clear hmg hmw hed hsum HAI HBK HB8 HPA HPB HZc HZ8
 have holen := Mrg.len (out := out) (e := e)
 obtain ⟨ol, hol2⟩ : ∃ ol, ol = out.length := ⟨_, rfl⟩
 rw [<- hol2] at hol ⊢
 have HOL := hid hol2
 have hol3 : ol <= 40000 := by omega
 have hol4 : out.length <= 40000 := by rw [<- HOL.out]; exact hol3
 clear hol2
 go_upto_region 13 with fail
 have hsl : ∃ (oc' ob : Nat), SlAt encE 3 wc oa ob 0 out /\ oc = oc' := by (
 obtain ⟨a3, c3, b3, hv, _, _, hsl, _⟩ := slAt_own lenE HMW2.out.own
 simp only [Value.slice.injEq] at hv
 obtain ⟨rfl, _, rfl⟩ := hv
 exact ⟨_, b3, hsl, rfl⟩)
 obtain ⟨_, ob, hsl, _⟩ := hsl
 have HSL := hid hsl
 have HM3 : Hid (MW w2 wc out (.slice oa ol oc)) := hid (by rw [HOL.out]; exact HMW2.out)
 clear hsl
 rcases Nat.eq_zero_or_pos ol with h0 | hp
 · (
 have hb0 : ((ol : Int) == 0) = true := by simp [h0]
 have hlast : Hid (out.getLast? ≠ some e) := hid (by
   have : out = [] := List.eq_nil_of_length_eq_zero (by rw [<- HOL.out]; exact h0)
   rw [this]; simp)
 have H0 := hid h0
 clear h0
 have HPU : Hid (pushL out e = out ++ [e]) := hid (by unfold pushL; rw [if_neg hlast.out])
 go_quiet (fail)
 go_wp2_with (at_builtin; go_must (refine wpList_app1 rfl _ _ _ rfl rowE (HM3.out.after nq _).bel (HM3.out.after nq _).bel.size rfl (HM3.out.after nq _).own ⟨wc.heap.size, 0, none⟩ 1 1 [.int .i64 e.1, .int .i64 e.2.1, .int .i64 e.2.2] rfl rfl (newE (heap_alloc_new (wc.drewN nq) _)) (by simp [Value.oneCell']) (by decide) (by omega) (by unfold maxLen; omega) ?_); intro g2 cap2 w7 hown7 _ hg7)
 have hpush := MW.push (ys := out ++ [e]) (v' := .slice (some ⟨g2, 0, none⟩) (out.length + 1) cap2) (HM3.out.after nq _) (by rw [List.length_append, List.flatMap_append]; exact hown7) hg7
 have HP := hid hpush
 clear hpush hown7 hg7
 go_roundw
 case rel => exact ⟨out ++ [e], i', k', _, _, by rw [List.length_append]; rfl, rfl, rfl, by omega, by omega, by rw [List.length_append]; have := HSUM.out; have := HOL.out; simp; omega, by have := HMG2.out; rw [HPU.out] at this; exact this, by rw [List.length_append]; exact HP.out⟩
 case measure => have := HSUM.out; simp [intOf]; omega)
 · (
 have hb0 : ((ol : Int) == 0) = false := by simp; omega
 obtain ⟨m, hm⟩ : ∃ m : Nat, ol = m + 1 := ⟨ol - 1, by omega⟩
 obtain ⟨x, hx⟩ := getElem?_of_lt (xs := out) (i := m) (by rw [<- HOL.out]; omega)
 have hlx : out.getLast? = some x := by rw [last_get (m := m) (by rw [<- HOL.out]; exact hm)]; exact hx
 have hoa := HSL.out.ad (by rw [<- HOL.out]; omega)
 subst hoa
 have d0 : wc.cell? ⟨ob, m * 3, none⟩ = some (.int .i64 x.1) := by have := HSL.out.e0 hx; simpa using this
 have d1 : wc.cell? ⟨ob, m * 3 + 1, none⟩ = some (.int .i64 x.2.1) := by have := HSL.out.e1 hx; simpa using this
 have d2 : wc.cell? ⟨ob, m * 3 + 2, none⟩ = some (.int .i64 x.2.2) := by have := HSL.out.e2 hx; simpa using this
 have hq := fun w => neqE x e w
 have hgd := guardE
 have HLX := hid hlx; have HM1 := hid hm
 have w1 : IntKind.i64.wrap ((ol : Int) - 1) = (ol : Int) - 1 := IntWalk.i64_in _ (by omega)
 have w2' : (0 : Int) <= (ol : Int) - 1 := by omega
 have w3 : ((ol : Int) - 1).toNat = m := by omega
 have w4 : (ol : Int) - 1 < (ol : Int) := by omega
 clear hx hlx hm
 by_cases hxe : x = e
 · (
 have hb : decide (x = e) = true := by simp [hxe]
 have HXE := hid hxe
 clear hxe
 go_quiet (fail)
 have HPU : Hid (pushL out e = out) := hid (by unfold pushL; rw [if_pos (by rw [HLX.out, HXE.out])])
 go_wp2_with fail
 go_roundw
 case rel => exact ⟨out, i', k', _, _, by rw [<- HOL.out], rfl, rfl, by omega, by omega, by have := HSUM.out; have := HOL.out; omega, by have := HMG2.out; rw [HPU.out] at this; exact this, (HMW2.out).drewN nq⟩
 case measure => have := HSUM.out; simp [intOf]; omega)
 · (
 have hb : decide (x = e) = false := by simp [hxe]
 have HXE := hid hxe
 clear hxe
 go_quiet (fail)
 have HPU : Hid (pushL out e = out ++ [e]) := hid (by unfold pushL; rw [if_neg (by rw [HLX.out]; intro h; exact HXE.out (by simpa using h))])
 go_wp2_with (at_builtin; go_must (refine wpList_app1 rfl _ _ _ rfl rowE (HM3.out.after nq _).bel (HM3.out.after nq _).bel.size rfl (HM3.out.after nq _).own ⟨wc.heap.size, 0, none⟩ 1 1 [.int .i64 e.1, .int .i64 e.2.1, .int .i64 e.2.2] rfl rfl (newE (heap_alloc_new (wc.drewN nq) _)) (by simp [Value.oneCell']) (by decide) (by omega) (by unfold maxLen; omega) ?_); intro g2 cap2 w7 hown7 _ hg7)
 have hpush := MW.push (ys := out ++ [e]) (v' := .slice (some ⟨g2, 0, none⟩) (out.length + 1) cap2) (HM3.out.after nq _) (by rw [List.length_append, List.flatMap_append]; exact hown7) hg7
 have HP := hid hpush
 clear hpush hown7 hg7
 go_roundw
 case rel => exact ⟨out ++ [e], i', k', _, _, by rw [List.length_append]; rfl, rfl, rfl, by omega, by omega, by rw [List.length_append]; have := HSUM.out; have := HOL.out; simp; omega, by have := HMG2.out; rw [HPU.out] at this; exact this, by rw [List.length_append]; exact HP.out⟩
 case measure => have := HSUM.out; simp [intOf]; omega)))))))
theorem refSorted_any : ∀ (n : Nat) {w : World} {a : Option Addr} {b off c : Nat} {xs : List E}, xs.length <= n -> SlAt encE 3 w a b off xs -> xs.length <= c -> c <= maxLen -> xs.length <= 20000 ->
    Calls Tryz.prog 134 #[.slice a xs.length c] w (SortPost xs w) := by
 intro n
 induction n with
 | zero =>
   intro w a b off c xs hn hS _ _ _
   exact refSorted_short hS (by omega)
 | succ n ih => (
 intro w a b off c xs hn hS hc hcm hl
 by_cases h2 : xs.length < 2
 · exact refSorted_short hS h2
 · obtain rfl := hS.ad (by omega)
   exact refSorted_step hS (by omega) hc hcm hl (fun W a b off c ys hlt hS' hc' hcm' => ih (by omega) hS' hc' hcm' (by omega)))
end Go.Proofs.YtgikimbafakmcaaGreatDoor
