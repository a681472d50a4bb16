/-
  Lemmas.
-/
import Derived.Test.YtgikimbafakmcaaGreatDoorGRws
import Derived.Test.YtgikimbafakmcaaGreatDoorPlP
import Derived.BigRegion
import Derived.Deep.QuietTactic
import Derived.BigQuiet
import Derived.IntWalk
import Derived.Outline
set_option maxRecDepth 100000
namespace Go.Proofs.YtgikimbafakmcaaGreatDoor
open Go.RowKit Pl
def encT (x : B3) : List Value := [.int .i64 x.1, .int .i64 x.2.1, .int .i64 x.2.2]
theorem lenT (x : B3) : (encT x).length = 3 := rfl
def flN (n : Nat) (f : Nat -> Nat) : List Int := fl n (fun i => (f i : Int))
theorem flN_len (n : Nat) (f : Nat -> Nat) : (flN n f).length = n := fl_len _ _
theorem flN_get {n : Nat} (f : Nat -> Nat) {i : Nat} (h : i < n) : (flN n f)[i]? = some (f i : Int) := fl_get _ h
theorem rowT : IsRow Tryz.prog 207 237 3 24 (.agg #[.int .i64 0, .int .i64 0, .int .i64 0]) := isRow_of Tryz.underlying207 (by kernel_rfl) rfl (by decide)
theorem flatI (L : List Int) : L.flatMap encI = L.map (Value.int .i64) := by
 induction L with
 | nil => rfl
 | cons x l ih => rw [List.flatMap_cons, ih]; rfl
theorem flN_map (n : Nat) (f : Nat -> Nat) : (flN n f).flatMap encI = (List.range n).map (fun i => Value.int .i64 (f i : Int)) := by
 rw [flatI]; unfold flN fl; rw [List.map_map]; rfl
theorem range_map_set' {α : Type} {m l : Nat} (g : Nat -> α) (x : α) : ((List.range m).map g).set l x = (List.range m).map (fun i => if i = l then x else g i) := by
 apply List.ext_getElem?
 intro i
 rw [List.getElem?_set]
 by_cases h : i < m
 · by_cases e : l = i
   · subst e; simp [h]
   · rw [if_neg e]
     simp [h, show ¬ i = l from fun e2 => e e2.symm]
 · by_cases e : l = i
   · subst e; simp [h]
   · rw [if_neg e]; simp [h]
theorem flN_set (n : Nat) (f : Nat -> Nat) (j v : Nat) : ((flN n f).flatMap encI).set j (.int .i64 (v : Int)) = (flN n (upd f j v)).flatMap encI := by
 rw [flN_map, flN_map, range_map_set']
 apply List.map_congr_left
 intro i _
 unfold upd
 split <;> rfl
theorem flN_at {n : Nat} (f : Nat -> Nat) {i : Nat} (h : i < n) : ((flN n f).flatMap encI)[i]? = some (.int .i64 (f i : Int)) := by
 rw [flN_map]; simp [h]
theorem flT_at {bl : List B3} {b : Nat} {x : B3} (h : bl[b]? = some x) : (bl.flatMap encT)[b * 3]? = some (.int .i64 (x.1 : Int)) /\ (bl.flatMap encT)[b * 3 + 1]? = some (.int .i64 (x.2.1 : Int)) /\ (bl.flatMap encT)[b * 3 + 2]? = some (.int .i64 (x.2.2 : Int)) :=
  ⟨by simpa using getElem?_flatMap lenT bl b x h 0 _ rfl, getElem?_flatMap lenT bl b x h 1 _ rfl, getElem?_flatMap lenT bl b x h 2 _ rfl⟩
theorem flT_set : ∀ {bl : List B3} {b : Nat} {x y : B3} (j : Nat) (v : Value), bl[b]? = some x -> j < 3 -> (encT x).set j v = encT y -> (bl.flatMap encT).set (b * 3 + j) v = (bl.set b y).flatMap encT
  | [], b, x, y, j, v, h, _, _ => by simp at h
  | z :: bl, 0, x, y, j, v, h, hj, he => by
    simp at h; subst h
    rw [Nat.zero_mul, Nat.zero_add, List.flatMap_cons, List.set_cons_zero, List.flatMap_cons, List.set_append_left _ _ (by rw [lenT]; exact hj), he]
  | z :: bl, b + 1, x, y, j, v, h, hj, he => by
    rw [List.flatMap_cons, List.set_cons_succ, List.flatMap_cons, List.set_append_right _ _ (by rw [lenT, Nat.add_mul]; omega), lenT]
    rw [show (b + 1) * 3 + j - 3 = b * 3 + j by rw [Nat.add_mul]; omega, flT_set j v (by simpa using h) hj he]
structure PK where
  pb : Nat
  eb : Nat
  qb : Nat
  ib : Nat
  bb : Nat
  ce : Nat
  cq : Nat
  ci : Nat
  cb : Nat
def PR (K : PK) (n : Nat) (el pl inn : Nat -> Nat) (bl : List B3) : List Rw :=
  [⟨209, 4, .slice (some ⟨K.pb, 0, none⟩) 1 1, 1, [.slice (some ⟨K.eb, 0, none⟩) n K.ce, .slice (some ⟨K.qb, 0, none⟩) n K.cq, .slice (some ⟨K.ib, 0, none⟩) n K.ci, .slice (some ⟨K.bb, 0, none⟩) bl.length K.cb]⟩,
   ⟨3, 1, .slice (some ⟨K.eb, 0, none⟩) n K.ce, n, (flN n el).flatMap encI⟩,
   ⟨3, 1, .slice (some ⟨K.qb, 0, none⟩) n K.cq, n, (flN n pl).flatMap encI⟩,
   ⟨3, 1, .slice (some ⟨K.ib, 0, none⟩) n K.ci, n, (flN n inn).flatMap encI⟩,
   ⟨237, 3, .slice (some ⟨K.bb, 0, none⟩) bl.length K.cb, bl.length, bl.flatMap encT⟩]
section
variable {w0 w w' w1 : World} {K : PK} {n : Nat} {el pl inn : Nat -> Nat} {bl : List B3} {rest : List Rw}
theorem own_caps {base : Nat} {e : TypeId} {k n g c : Nat} {xs : List Value} (h : w.ownsRow base e k (.slice (some ⟨g, 0, none⟩) n c) n xs) : n <= c /\ c <= maxLen := by
 rcases h.2 with ⟨h2, _⟩ | ⟨g', c', cur, hv, _, _, h3, h4, _⟩
 · simp at h2
 · simp only [Value.slice.injEq] at hv
   obtain ⟨_, _, rfl⟩ := hv
   exact ⟨h3, h4⟩
theorem Rws.pCells (h : Rws w0 w (PR K n el pl inn bl ++ rest)) :
    w.cell? ⟨K.pb, 0, none⟩ = some (.slice (some ⟨K.eb, 0, none⟩) n K.ce) /\ w.cell? ⟨K.pb, 1, none⟩ = some (.slice (some ⟨K.qb, 0, none⟩) n K.cq) /\ w.cell? ⟨K.pb, 2, none⟩ = some (.slice (some ⟨K.ib, 0, none⟩) n K.ci) /\ w.cell? ⟨K.pb, 3, none⟩ = some (.slice (some ⟨K.bb, 0, none⟩) bl.length K.cb) :=
  ⟨h.cell (i := 0) rfl rfl, h.cell (i := 0) rfl rfl, h.cell (i := 0) rfl rfl, h.cell (i := 0) rfl rfl⟩
theorem Rws.pLts (h : Rws w0 w (PR K n el pl inn bl ++ rest)) : K.pb < w.heap.size /\ K.eb < w.heap.size /\ K.qb < w.heap.size /\ K.ib < w.heap.size /\ K.bb < w.heap.size :=
  ⟨(h.lt (i := 0) rfl).2, (h.lt (i := 1) rfl).2, (h.lt (i := 2) rfl).2, (h.lt (i := 3) rfl).2, (h.lt (i := 4) rfl).2⟩
theorem Rws.pCaps (h : Rws w0 w (PR K n el pl inn bl ++ rest)) : n <= K.ce /\ n <= K.cq /\ n <= K.ci /\ bl.length <= K.cb :=
  ⟨(own_caps (h.get (i := 1) rfl)).1, (own_caps (h.get (i := 2) rfl)).1, (own_caps (h.get (i := 3) rfl)).1, (own_caps (h.get (i := 4) rfl)).1⟩
theorem Rws.pNe (h : Rws w0 w (PR K n el pl inn bl ++ rest)) : K.pb ≠ K.eb /\ K.pb ≠ K.qb /\ K.pb ≠ K.ib /\ K.pb ≠ K.bb /\ K.eb ≠ K.qb /\ K.eb ≠ K.ib /\ K.eb ≠ K.bb /\ K.qb ≠ K.ib /\ K.qb ≠ K.bb /\ K.ib ≠ K.bb :=
  ⟨h.ne' (i := 0) (j := 1) rfl rfl (by decide), h.ne' (i := 0) (j := 2) rfl rfl (by decide), h.ne' (i := 0) (j := 3) rfl rfl (by decide), h.ne' (i := 0) (j := 4) rfl rfl (by decide), h.ne' (i := 1) (j := 2) rfl rfl (by decide), h.ne' (i := 1) (j := 3) rfl rfl (by decide), h.ne' (i := 1) (j := 4) rfl rfl (by decide), h.ne' (i := 2) (j := 3) rfl rfl (by decide), h.ne' (i := 2) (j := 4) rfl rfl (by decide), h.ne' (i := 3) (j := 4) rfl rfl (by decide)⟩
theorem Rws.pFz (h : Rws w0 w (PR K n el pl inn bl ++ rest)) (j : Nat) : w.frozen? ⟨K.pb, j, none⟩ = false /\ w.frozen? ⟨K.eb, j, none⟩ = false /\ w.frozen? ⟨K.qb, j, none⟩ = false /\ w.frozen? ⟨K.ib, j, none⟩ = false /\ w.frozen? ⟨K.bb, j, none⟩ = false :=
  ⟨h.fz (i := 0) rfl j, h.fz (i := 1) rfl j, h.fz (i := 2) rfl j, h.fz (i := 3) rfl j, h.fz (i := 4) rfl j⟩
theorem Rws.pEl (h : Rws w0 w (PR K n el pl inn bl ++ rest)) {i : Nat} (hi : i < n) : w.cell? ⟨K.eb, i, none⟩ = some (.int .i64 (el i : Int)) := h.cell (i := 1) rfl (flN_at _ hi)
theorem Rws.pPl (h : Rws w0 w (PR K n el pl inn bl ++ rest)) {i : Nat} (hi : i < n) : w.cell? ⟨K.qb, i, none⟩ = some (.int .i64 (pl i : Int)) := h.cell (i := 2) rfl (flN_at _ hi)
theorem Rws.pIn (h : Rws w0 w (PR K n el pl inn bl ++ rest)) {i : Nat} (hi : i < n) : w.cell? ⟨K.ib, i, none⟩ = some (.int .i64 (inn i : Int)) := h.cell (i := 3) rfl (flN_at _ hi)
theorem Rws.pBl (h : Rws w0 w (PR K n el pl inn bl ++ rest)) {b : Nat} {x : B3} (hb : bl[b]? = some x) : w.cell? ⟨K.bb, b * 3, none⟩ = some (.int .i64 (x.1 : Int)) /\ w.cell? ⟨K.bb, b * 3 + 1, none⟩ = some (.int .i64 (x.2.1 : Int)) /\ w.cell? ⟨K.bb, b * 3 + 2, none⟩ = some (.int .i64 (x.2.2 : Int)) := by
 obtain ⟨h0, h1, h2⟩ := flT_at hb
 exact ⟨h.cell (i := 4) rfl h0, h.cell (i := 4) rfl h1, h.cell (i := 4) rfl h2⟩
theorem Rws.pSetEl (h : Rws w0 w (PR K n el pl inn bl ++ rest)) (j v : Nat) : Rws w0 (w.setCell ⟨K.eb, j, none⟩ (.int .i64 (v : Int))) (PR K n (upd el j v) pl inn bl ++ rest) := by
 have := h.set 1 rfl j (.int .i64 (v : Int)); rw [flN_set] at this; exact this
theorem Rws.pSetPl (h : Rws w0 w (PR K n el pl inn bl ++ rest)) (j v : Nat) : Rws w0 (w.setCell ⟨K.qb, j, none⟩ (.int .i64 (v : Int))) (PR K n el (upd pl j v) inn bl ++ rest) := by
 have := h.set 2 rfl j (.int .i64 (v : Int)); rw [flN_set] at this; exact this
theorem Rws.pSetIn (h : Rws w0 w (PR K n el pl inn bl ++ rest)) (j v : Nat) : Rws w0 (w.setCell ⟨K.ib, j, none⟩ (.int .i64 (v : Int))) (PR K n el pl (upd inn j v) bl ++ rest) := by
 have := h.set 3 rfl j (.int .i64 (v : Int)); rw [flN_set] at this; exact this
theorem Rws.pSetBl (h : Rws w0 w (PR K n el pl inn bl ++ rest)) {b : Nat} {x y : B3} (hb : bl[b]? = some x) (j : Nat) (v : Value) (hj : j < 3) (he : (encT x).set j v = encT y) : Rws w0 (w.setCell ⟨K.bb, b * 3 + j, none⟩ v) (PR K n el pl inn (bl.set b y) ++ rest) := by
 have := h.set 4 rfl (b * 3 + j) v; rw [flT_set j v hb hj he] at this
 have e : PR K n el pl inn (bl.set b y) = (PR K n el pl inn bl).set 4 ⟨237, 3, .slice (some ⟨K.bb, 0, none⟩) bl.length K.cb, bl.length, (bl.set b y).flatMap encT⟩ := by
   unfold PR; rw [List.length_set]; rfl
 rw [e]
 exact this
end
structure PW (w0 w : World) (K : PK) (n : Nat) (el pl inn : Nat -> Nat) (bl : List B3) (rest : List Rw) : Prop where
  rws : Rws w0 w (PR K n el pl inn bl ++ rest)
  pi : PI n el pl inn bl
  n1 : n <= 1000
end Go.Proofs.YtgikimbafakmcaaGreatDoor
namespace Go.Proofs.YtgikimbafakmcaaGreatDoor
open Go.RowKit Pl
theorem bdrewP {w0 w : World} {B : Nat} (h : Below B w0 w) (n : Nat) : Below B w0 (w.drewN n) := ⟨h.os, h.tape, h.output, h.size, h.block⟩
section
variable {w0 w : World} {K : PK} {n : Nat} {el pl inn : Nat -> Nat} {bl : List B3} {rest : List Rw}
theorem parOwn_any (w : World) (b : Nat) : Calls Tryz.prog 133 #[.pointer (some ⟨b, 0, none⟩)] w fun e w' => e = .returned (.pointer (some ⟨b, 0, none⟩)) /\ w = w' := by
 go_enter Tryz.func133, Tryz.ntmps133
 go_wp2_with fail
 go_ret
 exact ⟨rfl, rfl⟩
theorem asked_ok (w : World) (b i n : Nat) (hi : i < n) : Calls Tryz.prog 163 #[.pointer (some ⟨b, 0, none⟩), .int .i64 i, .int .i64 n] w fun e w' => e = .returned .nilIface /\ w = w' := by
 have h1 : ¬ (n : Int) <= (i : Int) := by omega
 go_enter Tryz.func163, Tryz.ntmps163
 go_wp2_with fail
 go_ret
 exact ⟨rfl, rfl⟩
theorem parSize_any (h : Rws w0 w (PR K n el pl inn bl ++ rest)) : Calls Tryz.prog 171 #[.pointer (some ⟨K.pb, 0, none⟩)] w fun e w' => e = .returned (.int .i64 n) /\ w = w' := by
 obtain ⟨c0, c1, c2, c3⟩ := h.pCells
 have l0 := h.pLts.1
 clear h
 go_enter Tryz.func171, Tryz.ntmps171
 go_wp2_with fail
 refine (parOwn_any w K.pb).mono ?_
 rintro e w1 ⟨rfl, rfl⟩
 go_wp2_with fail
 go_ret
 exact ⟨rfl, rfl⟩
theorem parBlocks_any (h : Rws w0 w (PR K n el pl inn bl ++ rest)) : Calls Tryz.prog 160 #[.pointer (some ⟨K.pb, 0, none⟩)] w fun e w' => e = .returned (.int .i64 bl.length) /\ w = w' := by
 obtain ⟨c0, c1, c2, c3⟩ := h.pCells
 have l0 := h.pLts.1
 obtain ⟨m, hm⟩ : ∃ m, m = bl.length := ⟨_, rfl⟩
 rw [<- hm] at c3 ⊢
 clear h hm
 go_enter Tryz.func160, Tryz.ntmps160
 go_wp2_with fail
 refine (parOwn_any w K.pb).mono ?_
 rintro e w1 ⟨rfl, rfl⟩
 go_wp2_with fail
 go_ret
 exact ⟨rfl, rfl⟩
theorem parRow_any' (h : Rws w0 w (PR K n el pl inn bl ++ rest)) (_hn : n <= 1000) {b : Nat} {x : B3} (hx : bl[b]? = some x) (b1 : x.1 < x.2.1) (b2 : x.2.1 <= n) : Calls Tryz.prog 162 #[.pointer (some ⟨K.pb, 0, none⟩), .int .i64 b] w fun e w' =>
    e = .returned (.slice (some ⟨K.eb, x.1, none⟩) (x.2.1 - x.1) (x.2.1 - x.1)) /\ Below w.heap.size w w' := by
 obtain ⟨c0, c1, c2, c3⟩ := h.pCells
 obtain ⟨l0, l1, l2, l3, l4⟩ := h.pLts
 obtain ⟨d0, d1, d2⟩ := h.pBl hx
 obtain ⟨k0, k1, k2, k3⟩ := h.pCaps
 have hbl := (List.getElem?_eq_some_iff.1 hx).1
 obtain ⟨m, hm⟩ : ∃ m, m = bl.length := ⟨_, rfl⟩
 rw [<- hm] at c3 hbl
 obtain ⟨x1, x2, x3⟩ := x
 simp only at d0 d1 d2 b1 b2 ⊢
 have q1 : (b : Int) < (m : Int) := by omega
 have q2 : (x1 : Int) <= (x2 : Int) := by omega
 have q3 : (x2 : Int) <= (K.ce : Int) := by omega
 have q4 : x1 < x2 := by omega
 clear h hx hm k0 k1 k2 k3
 go_enter Tryz.func162, Tryz.ntmps162
 go_wp2_with fail
 go_quiet (fail)
 go_wp2_with fail
 go_ret
 exact ⟨rfl, bdrewP ((Below.refl _ _).alloc (Nat.le_refl _) _) _⟩
theorem parRow_any (h : PW w0 w K n el pl inn bl rest) {b : Nat} {x : B3} (hx : bl[b]? = some x) : Calls Tryz.prog 162 #[.pointer (some ⟨K.pb, 0, none⟩), .int .i64 b] w fun e w' =>
    e = .returned (.slice (some ⟨K.eb, x.1, none⟩) (x.2.1 - x.1) (x.2.1 - x.1)) /\ Below w.heap.size w w' := by
 obtain ⟨b1, b2, b3⟩ := h.pi.blk b x hx
 exact parRow_any' h.rws h.n1 hx b1 b2
theorem parFirst_any (h : PW w0 w K n el pl inn bl rest) {b : Nat} {x : B3} (hx : bl[b]? = some x) : Calls Tryz.prog 161 #[.pointer (some ⟨K.pb, 0, none⟩), .int .i64 b] w fun e w' =>
    e = .returned (.int .i64 (el x.1 : Int)) /\ Below w.heap.size w w' := by
 obtain ⟨b1, b2, b3⟩ := h.pi.blk b x hx
 have HR := Lib.hid (parRow_any h hx)
 have H := Lib.hid h
 obtain ⟨x1, x2, x3⟩ := x
 simp only at b1 b2 b3 HR ⊢
 have q4 : 0 < x2 - x1 := by omega
 have q5 : x1 < n := by omega
 clear h hx b1 b2 b3
 go_enter Tryz.func161, Tryz.ntmps161
 go_wp2_with fail
 refine HR.out.mono ?_
 rintro e w1 ⟨rfl, hB⟩
 have h1 := H.out.rws.call hB
 have c0 := h1.pEl q5
 have l0 := h1.pLts.2.1
 have HB := Lib.hid hB
 clear h1 hB
 go_wp2_with fail
 go_ret
 exact ⟨rfl, HB.out⟩
theorem parLen_any (h : PW w0 w K n el pl inn bl rest) {b : Nat} {x : B3} (hx : bl[b]? = some x) : Calls Tryz.prog 130 #[.pointer (some ⟨K.pb, 0, none⟩), .int .i64 b] w fun e w' =>
    e = .returned (.int .i64 ((memN n inn b).length : Int)) /\ Below w.heap.size w w' := by
 have HR := Lib.hid (parRow_any h hx)
 rw [h.pi.rowE_len hx]
 clear h hx
 go_enter Tryz.func130, Tryz.ntmps130
 go_wp2_with fail
 refine HR.out.mono ?_
 rintro e w1 ⟨rfl, hB⟩
 have HB := Lib.hid hB
 clear hB
 go_wp2_with fail
 go_ret
 exact ⟨rfl, HB.out⟩
end
end Go.Proofs.YtgikimbafakmcaaGreatDoor
namespace Go.Proofs.YtgikimbafakmcaaGreatDoor
open Go.RowKit Pl
section
variable {w0 w : World} {K : PK} {n : Nat} {el pl inn : Nat -> Nat} {bl : List B3} {rest : List Rw}
set_option maxHeartbeats 2000000 in
theorem swap_any (h : Rws w0 w (PR K n el pl inn bl ++ rest)) {i k : Nat} (hi : i < n) (hk : k < n) (hei : el i < n) (hek : el k < n) :
    Calls Tryz.prog 172 #[.pointer (some ⟨K.pb, 0, none⟩), .int .i64 i, .int .i64 k] w fun e w' => e = .returned (.tuple #[]) /\ Rws w0 w' (PR K n (swE el i k) (swP el pl i k) inn bl ++ rest) := by
 obtain ⟨c0, c1, c2, c3⟩ := h.pCells
 obtain ⟨l0, l1, l2, l3, l4⟩ := h.pLts
 have d1 := h.pEl hi; have d2 := h.pEl hk
 have f1 := (h.pFz i).2.1; have f2 := (h.pFz k).2.1
 obtain ⟨n1, n2, n3, n4, n5, n6, n7, n8, n9, n10⟩ := h.pNe
 obtain ⟨a, ha⟩ : ∃ a, a = el i := ⟨_, rfl⟩
 obtain ⟨b, hb⟩ : ∃ b, b = el k := ⟨_, rfl⟩
 have hiI : (i : Int) < (n : Int) := by omega
 have hkI : (k : Int) < (n : Int) := by omega
 have haI : (a : Int) < (n : Int) := by omega
 have hbI : (b : Int) < (n : Int) := by omega
 have h1 : Rws w0 ((w.setCell ⟨K.eb, i, none⟩ (.int .i64 (b : Int))).setCell ⟨K.eb, k, none⟩ (.int .i64 (a : Int))).drew (PR K n (swE el i k) pl inn bl ++ rest) := by (
 have := ((h.pSetEl i b).pSetEl k a).drew
 rw [ha, hb] at this ⊢
 exact this)
 have g1 : swE el i k i = b := by (
 unfold swE upd
 by_cases e : i = k
 · subst e; simp [hb]
 · simp [e, hb])
 have g2 : swE el i k k = a := by unfold swE upd; simp [ha]
 rw [<- ha] at d1; rw [<- hb] at d2
 have d3 := (h.pSetEl i b).pEl hk
 have f3 := ((h.pSetEl i b).pFz k).2.1
 obtain ⟨u, hu⟩ : ∃ u, u = upd el i b k := ⟨_, rfl⟩
 rw [<- hu] at d3
 have H1 := Lib.hid h1; have G1 := Lib.hid g1; have G2 := Lib.hid g2
 have HA := Lib.hid ha; have HB := Lib.hid hb
 have han : a < n := by omega
 have hbn : b < n := by omega
 clear h h1 g1 g2 ha hb hei hek c1 c2 c3 hu
 go_enter Tryz.func172, Tryz.ntmps172
 go_wp2_with fail
 go_region
 obtain ⟨W, hW⟩ : ∃ W, W = ((w.setCell ⟨K.eb, i, none⟩ (.int .i64 (b : Int))).setCell ⟨K.eb, k, none⟩ (.int .i64 (a : Int))).drew := ⟨_, rfl⟩
 rw [<- hW] at H1 ⊢
 clear hW c0 l0 l1 l2 l3 l4 d1 d2 d3 f1 f2 f3
 obtain ⟨c0, c1, c2, c3⟩ := H1.out.pCells
 obtain ⟨l0, l1, l2, l3, l4⟩ := H1.out.pLts
 have d1 := H1.out.pEl hi; have d2 := H1.out.pEl hk
 rw [G1.out] at d1; rw [G2.out] at d2
 have e1 := H1.out.pPl han; have e2 := H1.out.pPl hbn
 have f1 := (H1.out.pFz a).2.2.1; have f2 := (H1.out.pFz b).2.2.1
 have e3 := (H1.out.pSetPl b i).pPl han
 have f3 := ((H1.out.pSetPl b i).pFz a).2.2.1
 obtain ⟨v, hv⟩ : ∃ v, v = upd pl b i a := ⟨_, rfl⟩
 rw [<- hv] at e3
 have h2 : Rws w0 ((W.setCell ⟨K.qb, b, none⟩ (.int .i64 (i : Int))).setCell ⟨K.qb, a, none⟩ (.int .i64 (k : Int))).drew (PR K n (swE el i k) (swP el pl i k) inn bl ++ rest) := by (
 unfold swP
 rw [<- HA.out, <- HB.out]
 exact ((H1.out.pSetPl b i).pSetPl a k).drew)
 have H2 := Lib.hid h2
 clear c2 c3 l3 l4 hv h2 H1 HA HB G1 G2
 go_wp2_with fail
 go_region
 go_end0
 exact ⟨rfl, H2.out⟩
end
end Go.Proofs.YtgikimbafakmcaaGreatDoor
