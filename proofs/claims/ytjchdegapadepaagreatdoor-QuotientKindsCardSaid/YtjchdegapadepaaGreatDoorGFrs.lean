/-
  Lemmas.
-/
import Derived.Test.YtjchdegapadepaaGreatDoorGCanon
import Derived.Test.YtjchdegapadepaaGreatDoorGPl3
import Derived.Test.YtjchdegapadepaaGreatDoorGMem
import Derived.Test.YtjchdegapadepaaGreatDoorPlP
import Derived.BigRegion
import Derived.Deep.QuietTactic
import Derived.BigQuiet
import Derived.IntWalk
import Derived.Outline
set_option maxRecDepth 100000
namespace Go.Proofs.YtjchdegapadepaaGreatDoor
open Go.RowKit Pl
def FR (ob m : Nat) (vs : Nat -> Value) (f : Nat -> List Int) : List Rw :=
  ⟨27, 1, .slice (some ⟨ob, 0, none⟩) m m, m, (List.range m).map vs⟩ :: (List.range m).map (fun l => (⟨3, 1, vs l, (f l).length, (f l).flatMap encI⟩ : Rw))
theorem k0e {α : Type} {m l : Nat} (g : Nat -> α) (x : α) : ((List.range m).map g).set l x = (List.range m).map (upd g l x) := by
 apply List.ext_getElem?
 intro i
 rw [List.getElem?_set]
 by_cases h : i < m
 · by_cases e : l = i
   · subst e; simp [h, upd]
   · rw [if_neg e]
     simp [h, upd, show ¬ i = l from fun e2 => e e2.symm]
 · by_cases e : l = i
   · subst e; simp [h]
   · rw [if_neg e]; simp [h]
theorem FR.set {ob m l : Nat} {vs : Nat -> Value} {f : Nat -> List Int} (v : Value) (ys : List Int) (rest : List Rw) (hl : l < m) :
    (((FR ob m vs f ++ rest).set (l + 1) ⟨3, 1, v, ys.length, ys.flatMap encI⟩).set 0 ⟨27, 1, .slice (some ⟨ob, 0, none⟩) m m, m, ((List.range m).map vs).set l v⟩) = FR ob m (upd vs l v) (upd f l ys) ++ rest := by
 unfold FR
 rw [List.cons_append, List.set_cons_succ, List.set_cons_zero, List.set_append_left _ _ (by simpa using hl), k0e, k0e, List.cons_append]
 congr 2
 apply List.map_congr_left
 intro i _
 unfold upd
 split <;> rfl
section
variable {w0 w w' w1 w2 : World} {rest : List Rw} {ob m : Nat} {vs : Nat -> Value} {f : Nat -> List Int}
theorem Rws.frMade (h : Rws w0 w rest) (hm : m <= maxLen) : Rws w0 (w.alloc (.cells (madeCells #[.slice none 0 0] m) 27)) (FR w.heap.size m (fun _ => .slice none 0 0) (fun _ => []) ++ rest) := by
 have key : ∀ k, Rws w0 w ((List.range k).map (fun _ => (⟨3, 1, .slice none 0 0, 0, []⟩ : Rw)) ++ rest) := fun k => by (
 induction k with
 | zero => exact h
 | succ k ih =>
   rw [List.range_succ_eq_map, List.map_cons, List.map_map]
   exact ih.addNil _ _)
 have h2 := (key m).addLit (madeCells #[.slice none 0 0] m) 27 (k := 1) (n := m) hm (by simp [size_madeCells])
 have e : (madeCells #[.slice none 0 0] m).toList = (List.range m).map (fun _ => (.slice none 0 0 : Value)) := by (
 rw [toList_madeCells_one]
 apply List.ext_getElem?
 intro i
 by_cases hi : i < m <;> simp [hi])
 rw [e] at h2
 exact h2
theorem Rws.frCell (h : Rws w0 w (FR ob m vs f ++ rest)) {l : Nat} (hl : l < m) : w.cell? ⟨ob, l, none⟩ = some (vs l) /\ w.frozen? ⟨ob, l, none⟩ = false /\ ob < w.heap.size /\ w0.heap.size <= ob :=
  ⟨h.cell (i := 0) rfl (by simp [hl]), h.fz (i := 0) rfl l, (h.lt (i := 0) rfl).2, (h.lt (i := 0) rfl).1⟩
theorem Rws.frOwn (h : Rws w0 w (FR ob m vs f ++ rest)) {l : Nat} (hl : l < m) : w.ownsRow w0.heap.size 3 1 (vs l) (f l).length ((f l).flatMap encI) :=
  h.get (i := l + 1) (r := ⟨3, 1, vs l, (f l).length, (f l).flatMap encI⟩) (by unfold FR; rw [List.cons_append, List.getElem?_cons_succ, List.getElem?_append_left (by simpa using hl)]; simp [hl])
theorem Rws.frGrow {w2 : World} (h : Rws w0 w (FR ob m vs f ++ rest)) (hB2 : Below w.heap.size w w2) {l : Nat} (hl : l < m) {v' : Value} {ys : List Int} (ho : w1.ownsRow w0.heap.size 3 1 v' ys.length (ys.flatMap encI)) (hg : w2.grownBy w1 (vs l).ownBlock)
    (hh : ∀ g, v'.ownBlock = some g -> (vs l).ownBlock = some g ∨ w.heap.size <= g) :
    w1.cell? ⟨ob, l, none⟩ = some (vs l) /\ w1.frozen? ⟨ob, l, none⟩ = false /\ ob < w1.heap.size /\ Rws w0 (w1.setCell ⟨ob, l, none⟩ v') (FR ob m (upd vs l v') (upd f l ys) ++ rest) := by
 have hi : (FR ob m vs f ++ rest)[l + 1]? = some (⟨3, 1, vs l, (f l).length, (f l).flatMap encI⟩ : Rw) := by
   unfold FR; rw [List.cons_append, List.getElem?_cons_succ, List.getElem?_append_left (by simpa using hl)]; simp [hl]
 have hs := h.grown hB2 (l + 1) hi ho hg hh
 have h0 : ((FR ob m vs f ++ rest).set (l + 1) ⟨3, 1, v', ys.length, ys.flatMap encI⟩)[0]? = some (⟨27, 1, .slice (some ⟨ob, 0, none⟩) m m, m, (List.range m).map vs⟩ : Rw) := by
   unfold FR; rw [List.cons_append, List.set_cons_succ]; rfl
 have h2 := hs.set 0 h0 l v'
 rw [FR.set v' ys rest hl] at h2
 exact ⟨hs.cell h0 (by simp [hl]), hs.fz h0 l, (hs.lt h0).2, h2⟩
end
end Go.Proofs.YtjchdegapadepaaGreatDoor
namespace Go.Proofs.YtjchdegapadepaaGreatDoor
open Go.RowKit Pl
def fil (label : Int) (ss : List S) : List Value := (ss.filter (fun s => s.1 == label)).map fun s => .int .i64 s.2
theorem fil_snoc (label : Int) (ss : List S) (k : Nat) (h : k < ss.length) : fil label (ss.take (k+1)) = fil label (ss.take k) ++ (if (ss.getD k (0,0)).1 == label then [.int .i64 (ss.getD k (0,0)).2] else []) := by
 rw [List.take_succ_eq_append_getElem h]
 unfold fil
 rw [List.filter_append, List.map_append]
 simp only [List.getD, List.getElem?_eq_getElem h, Option.getD_some]
 by_cases hx : (ss[k].1 == label) = true <;> simp [List.filter, hx]
theorem fil_le (label : Int) (ss : List S) (k : Nat) : (fil label (ss.take k)).length <= ss.length := by
 unfold fil; rw [List.length_map]; exact Nat.le_trans (List.length_filter_le _ _) (by simp; omega)
theorem with_any (a : Option Addr) (b off c : Nat) (ss : List S) (label : Int) (w : World) (hlen : ss.length <= 20000)
    (ha : 0 < ss.length -> a = some ⟨b, off, none⟩) (hb : b < w.heap.size)
    (h0 : ∀ i, i < ss.length -> w.cell? ⟨b, off + i * 2, none⟩ = some (.int .i64 (ss.getD i (0,0)).1))
    (h1 : ∀ i, i < ss.length -> w.cell? ⟨b, off + i * 2 + 1, none⟩ = some (.int .i64 (ss.getD i (0,0)).2)) :
    Calls Tryz.prog 102 #[.slice a ss.length c, .int .i64 label] w fun e w' =>
      ∃ v, e = .returned v /\ w'.ownsRow w.heap.size 3 1 v ((fil label ss).length) (fil label ss) /\ Below w.heap.size w w' := by
 go_enter Tryz.func102, Tryz.ntmps102
 go_wp2
 go_loopw [5, 10] (fun v i wr => ∃ k : Nat, k <= ss.length /\ i = .int .i64 k /\ wr.ownsRow w.heap.size 3 1 v ((fil label (ss.take k)).length) (fil label (ss.take k)) /\ Below w.heap.size w wr)
   (fun _ i _ => ss.length - (intOf i).toNat)
 case atStart => exact ⟨0, Nat.zero_le _, rfl, World.ownsRow_nil _ _ _ _, Below.refl _ _⟩
 case round => (
 obtain ⟨k, hk, rfl, hown, hnx⟩ := hrel
 by_cases hlt : k < ss.length
 · (
 obtain rfl := ha (by omega)
 have hs := fil_snoc label ss k hlt
 obtain ⟨x, hx⟩ : ∃ x, x = ss.getD k (0,0) := ⟨_, rfl⟩
 have hc0 : wr.cell? ⟨b, off + k * 2, none⟩ = some (.int .i64 x.1) := by rw [hx]; exact (hnx.cell (by exact hb)).trans (h0 k hlt)
 have hc1 : wr.cell? ⟨b, off + k * 2 + 1, none⟩ = some (.int .i64 x.2) := by rw [hx]; exact (hnx.cell (by exact hb)).trans (h1 k hlt)
 have hbr : b < wr.heap.size := Nat.lt_of_lt_of_le hb hnx.size
 rw [<- hx] at hs
 have hle := fil_le label ss k
 have hsz := hnx.size
 clear h0 h1 hx ha
 generalize fil label (ss.take k) = f at *
 by_cases hxl : (x.1 == label) = true
 · (
 rw [if_pos hxl] at hs
 have HS := Lib.hid hs; clear hs
 go_wp2_with (at_builtin; refine p0g rfl _ _ _ rfl v0u ((hnx.alloc hsz _).alloc (by simp; omega) _) (by simp; omega) rfl ((hown.alloc _).alloc _) ⟨wr.heap.size + 1, 0, none⟩ 1 1 [.int .i64 x.2] rfl rfl (k0i (by simp [go_sem])) (by simp [Value.oneCell']) (by omega) (by unfold maxLen; omega) ?_; intro v' w1 hown1 hb1 _)
 clear hown hnx
 go_roundw
 case rel => exact ⟨k + 1, by omega, by go_num, by rw [HS.out]; simpa using hown1, hb1⟩
 case measure => simp [intOf]; omega)
 · (
 rw [if_neg hxl] at hs
 have hxl' : (x.1 == label) = false := by simpa using hxl
 have HS := Lib.hid hs; clear hs
 clear hxl
 go_wp2
 go_roundw
 case rel => exact ⟨k + 1, by omega, by go_num, by rw [HS.out]; simpa using hown.alloc _, hnx.alloc hsz _⟩
 case measure => simp [intOf]; omega))
 · (
 clear h0 h1 ha
 go_wp2
 go_ret
 have : k = ss.length := by omega
 subst this
 exact ⟨_, rfl, by simpa using hown, hnx⟩))
theorem with_nil (a : Option Addr) (c : Nat) (label : Int) (w : World) :
    Calls Tryz.prog 102 #[.slice a 0 c, .int .i64 label] w fun e w' =>
      ∃ v, e = .returned v /\ w'.ownsRow w.heap.size 3 1 v 0 [] /\ Below w.heap.size w w' := by
 go_enter Tryz.func102, Tryz.ntmps102
 go_wp2
 refine wp_loop_rounds 1 ?_
 rw [rounds_succ]
 go_wp2
 go_ret
 exact ⟨_, rfl, World.ownsRow_nil _ _ _ _, Below.refl _ _⟩
theorem fil_flat (label : Int) (ss : List S) : fil label ss = (((ss.filter (fun s => s.1 == label)).map fun s => s.2)).flatMap encI := by
 unfold fil
 rw [List.flatMap_map]
 induction (ss.filter (fun s => s.1 == label)) with
 | nil => rfl
 | cons x l ih => simp [ih, encI]
def withL (label : Int) (ss : List S) : List Int := (ss.filter (fun s => s.1 == label)).map fun s => s.2
theorem j2o {a : Option Addr} {b off c : Nat} {ss : List S} {w : World} (h : SlAt encS 2 w a b off ss) (hlen : ss.length <= 20000) (label : Int) :
    Calls Tryz.prog 102 #[.slice a ss.length c, .int .i64 label] w fun e w' =>
      ∃ v, e = .returned v /\ w'.ownsRow w.heap.size 3 1 v (withL label ss).length ((withL label ss).flatMap encI) /\ Below w.heap.size w w' := by
 by_cases h0 : 0 < ss.length
 · (
 refine (with_any a b off c ss label w hlen h.ad (h.lt h0) (fun i hi => ?_) (fun i hi => ?_)).mono ?_
 · obtain ⟨x, hx⟩ := j0a hi
   rw [List.getD, hx]; exact h.s0 hx
 · obtain ⟨x, hx⟩ := j0a hi
   rw [List.getD, hx]; exact h.s1 hx
 · (
 rintro e w' ⟨v, rfl, ho, hB⟩
 rw [fil_flat] at ho
 refine ⟨v, rfl, ?_, hB⟩
 have hl : (withL label ss).length = ((withL label ss).flatMap encI).length := by rw [j0b k0v]; omega
 unfold withL at *
 rw [hl]; exact ho))
 · have hz : ss = [] := List.eq_nil_of_length_eq_zero (by omega)
   subst hz
   exact with_nil a c label w
end Go.Proofs.YtjchdegapadepaaGreatDoor
namespace Go.Proofs.YtjchdegapadepaaGreatDoor
open Go.RowKit Pl
open Lib (hid)
theorem y1l (x y z : Int) (v : Value) (w : World) : (Instr.field 24 (.agg #[.int .i64 x, .int .i64 y, .int .i64 z, v]) 0).run Tryz.prog w = .ok (.int .i64 x) w := by kernel_rfl
theorem y1k (x y z : Int) (v : Value) (w : World) : (Instr.field 24 (.agg #[.int .i64 x, .int .i64 y, .int .i64 z, v]) 1).run Tryz.prog w = .ok (.int .i64 y) w := by kernel_rfl
theorem y1j (x y z : Int) (v : Value) (w : World) : (Instr.field 24 (.agg #[.int .i64 x, .int .i64 y, .int .i64 z, v]) 2).run Tryz.prog w = .ok (.int .i64 z) w := by kernel_rfl
theorem fldSys3 (x y z : Int) (v : Value) (w : World) : (Instr.field 24 (.agg #[.int .i64 x, .int .i64 y, .int .i64 z, v]) 3).run Tryz.prog w = .ok v w := by kernel_rfl
theorem p0d {s : Lts} (h : s.Right) (i : Int) : (s.outs i).length <= 10000 := by
 have := h.st0
 unfold Lts.outs; rw [List.length_map]
 have := List.length_filter_le (fun x => x.1 == i) s.es; omega
theorem v0b {s : Lts} (h : s.Right) (i : Int) : (s.ins i).length <= 10000 := by
 have := h.st0
 unfold Lts.ins; rw [List.length_map]
 have := List.length_filter_le (fun x => x.2.2 == i) (nf ltB s.es)
 have := j0s (lt := ltB) s.es; omega
theorem j1s {w : World} {gb : Nat} {s : Lts} (h : GraphAt w gb s) :
    Calls Tryz.prog 92 #[.pointer (some ⟨gb, 0, none⟩)] w fun e w' => ∃ a c b off, e = .returned (.agg #[.int .i64 s.st, .int .i64 s.lb, .int .i64 s.s0, .slice a s.es.length c]) /\ s.es.length <= c /\ SlAt encE 3 w' a b off s.es /\ Below w.heap.size w w' := by
 obtain ⟨ve, oa, of, ia, if_, h1, ⟨a, c, b, off, rfl, hcc, h3⟩, _, _⟩ := h.blk
 have c0 : w.cell? ⟨gb, 0, none⟩ = some (.int .i64 s.st) := by simp [World.cell?, h1]
 have c1 : w.cell? ⟨gb, 1, none⟩ = some (.int .i64 s.lb) := by simp [World.cell?, h1]
 have c2 : w.cell? ⟨gb, 2, none⟩ = some (.int .i64 s.s0) := by simp [World.cell?, h1]
 have c3 : w.cell? ⟨gb, 3, none⟩ = some (.slice a s.es.length c) := by simp [World.cell?, h1]
 have hgb := h.lt
 have H3 := hid h3
 clear h h1 h3
 go_enter Tryz.func92, Tryz.ntmps92
 go_wp2
 have hB : Below w.heap.size w _ := (Below.refl w.heap.size w).alloc (Nat.le_refl _) (Obj.cells #[.int .i64 s.st, .int .i64 s.lb, .int .i64 s.s0, .slice a s.es.length c] 24)
 exact bodyPost_ret (v := .agg #[.int .i64 s.st, .int .i64 s.lb, .int .i64 s.s0, .slice a s.es.length c]) (by simp [results, Tryz.results92, go_sem]) rfl ⟨a, c, b, off, rfl, hcc, H3.out.below hB (Nat.le_refl _), hB⟩
theorem j0m {w : World} {gb : Nat} {s : Lts} (h : GraphAt w gb s) :
    Calls Tryz.prog 55 #[.pointer (some ⟨gb, 0, none⟩)] w fun e w' => e = .returned (.int .i64 s.st) /\ Below w.heap.size w w' := by
 have HO := hid (j1s h); clear h
 have hfl := y1l
 have hfl := y1l
 have hfl := y1l
 go_enter Tryz.func55, Tryz.ntmps55
 go_wp2_with (go_at_call 92; refine (HO.out).mono ?_; rintro e w1 ⟨a, c, b, off, rfl, hcc, hS, hB⟩; have HS := hid hS; clear hS)
 go_ret
 exact ⟨rfl, hB⟩
theorem k1j {w : World} {gb : Nat} {s : Lts} (h : GraphAt w gb s) :
    Calls Tryz.prog 114 #[.pointer (some ⟨gb, 0, none⟩)] w fun e w' => e = .returned (.int .i64 s.lb) /\ Below w.heap.size w w' := by
 have HO := hid (j1s h); clear h
 have hfl := y1k
 have hfl := y1k
 have hfl := y1k
 go_enter Tryz.func114, Tryz.ntmps114
 go_wp2_with (go_at_call 92; refine (HO.out).mono ?_; rintro e w1 ⟨a, c, b, off, rfl, hcc, hS, hB⟩; have HS := hid hS; clear hS)
 go_ret
 exact ⟨rfl, hB⟩
set_option maxRecDepth 100000 in
theorem getStart_any {w : World} {gb : Nat} {s : Lts} (h : GraphAt w gb s) :
    Calls Tryz.prog 86 #[.pointer (some ⟨gb, 0, none⟩)] w fun e w' => e = .returned (.int .i64 s.s0) /\ Below w.heap.size w w' := by
  have HO := hid (j1s h); clear h
  have hfl := y1j
  have hfl := y1j
  have hfl := y1j
  go_enter Tryz.func86, Tryz.ntmps86
  go_wp2_with (go_at_call 92; refine (HO.out).mono ?_; rintro e w1 ⟨a, c, b, off, rfl, hcc, hS, hB⟩; have HS := hid hS; clear hS)
  go_ret
  exact ⟨rfl, hB⟩
theorem q2n {w : World} {gb : Nat} {s : Lts} (h : GraphAt w gb s) (i label : Int) :
    Calls Tryz.prog 62 #[.pointer (some ⟨gb, 0, none⟩), .int .i64 i, .int .i64 label] w fun e w' => ∃ v, e = .returned v /\ w'.ownsRow w.heap.size 3 1 v (withL label (s.outs i)).length ((withL label (s.outs i)).flatMap encI) /\ Below w.heap.size w w' := by
 have hl : (s.outs i).length <= 20000 := by have := p0d h.right i; omega
 have HO := hid (x0o h (Below.refl _ w) i); clear h
 go_enter Tryz.func62, Tryz.ntmps62
 go_wp2_with (go_at_call 52; refine (HO.out).mono ?_; rintro e w1 ⟨⟨a, c, b, off, rfl, hc1, hc2, hS⟩, hB⟩; have HS := hid hS; clear hS)
 have hsz := hB.size
 refine (j2o (HS.out.below hB (Nat.le_refl _)) hl label).mono ?_
 rintro e w2 ⟨v, rfl, hown, hB2⟩
 have HW := hid hown; clear hown
 go_wp2
 go_ret
 exact ⟨v, rfl, j0o HW.out hsz, hB.trans (hB2.mono hsz)⟩
set_option maxRecDepth 100000 in
theorem getFrom_any {w : World} {gb : Nat} {s : Lts} (h : GraphAt w gb s) (i label : Int) :
    Calls Tryz.prog 63 #[.pointer (some ⟨gb, 0, none⟩), .int .i64 i, .int .i64 label] w fun e w' => ∃ v, e = .returned v /\ w'.ownsRow w.heap.size 3 1 v (withL label (s.ins i)).length ((withL label (s.ins i)).flatMap encI) /\ Below w.heap.size w w' := by
  have hl : (s.ins i).length <= 20000 := by have := v0b h.right i; omega
  have HO := hid (k1s h (Below.refl _ w) i); clear h
  go_enter Tryz.func63, Tryz.ntmps63
  go_wp2_with (go_at_call 103; refine (HO.out).mono ?_; rintro e w1 ⟨⟨a, c, b, off, rfl, hc1, hc2, hS⟩, hB⟩; have HS := hid hS; clear hS)
  have hsz := hB.size
  refine (j2o (HS.out.below hB (Nat.le_refl _)) hl label).mono ?_
  rintro e w2 ⟨v, rfl, hown, hB2⟩
  have HW := hid hown; clear hown
  go_wp2
  go_ret
  exact ⟨v, rfl, j0o HW.out hsz, hB.trans (hB2.mono hsz)⟩
end Go.Proofs.YtjchdegapadepaaGreatDoor
namespace Go.Proofs.YtjchdegapadepaaGreatDoor
open Go.RowKit Pl
def encT (x : B3) : List Value := [.int .i64 x.1, .int .i64 x.2.1, .int .i64 x.2.2]
theorem lenT (x : B3) : (encT x).length = 3 := rfl
def flN (n : Nat) (f : Nat -> Nat) : List Int := fl n (fun i => (f i : Int))
theorem k0j (n : Nat) (f : Nat -> Nat) : (flN n f).length = n := j0g _ _
theorem flN_get {n : Nat} (f : Nat -> Nat) {i : Nat} (h : i < n) : (flN n f)[i]? = some (f i : Int) := j0h _ h
theorem rowT : IsRow Tryz.prog 143 208 3 24 (.agg #[.int .i64 0, .int .i64 0, .int .i64 0]) := p0f Tryz.underlying143 (by kernel_rfl) rfl (by decide)
theorem flatI (L : List Int) : L.flatMap encI = L.map (Value.int .i64) := by
 induction L with
 | nil => rfl
 | cons x l ih => rw [List.flatMap_cons, ih]; rfl
theorem k1n (n : Nat) (f : Nat -> Nat) : (flN n f).flatMap encI = (List.range n).map (fun i => Value.int .i64 (f i : Int)) := by
 rw [flatI]; unfold flN fl; rw [List.map_map]; rfl
theorem v0z {α : Type} {m l : Nat} (g : Nat -> α) (x : α) : ((List.range m).map g).set l x = (List.range m).map (fun i => if i = l then x else g i) := by
 apply List.ext_getElem?
 intro i
 rw [List.getElem?_set]
 by_cases h : i < m
 · by_cases e : l = i
   · subst e; simp [h]
   · rw [if_neg e]
     simp [h, show ¬ i = l from fun e2 => e e2.symm]
 · by_cases e : l = i
   · subst e; simp [h]
   · rw [if_neg e]; simp [h]
theorem y0f (n : Nat) (f : Nat -> Nat) (j v : Nat) : ((flN n f).flatMap encI).set j (.int .i64 (v : Int)) = (flN n (upd f j v)).flatMap encI := by
 rw [k1n, k1n, v0z]
 apply List.map_congr_left
 intro i _
 unfold upd
 split <;> rfl
theorem v0g {n : Nat} (f : Nat -> Nat) {i : Nat} (h : i < n) : ((flN n f).flatMap encI)[i]? = some (.int .i64 (f i : Int)) := by
 rw [k1n]; simp [h]
theorem flT_at {bl : List B3} {b : Nat} {x : B3} (h : bl[b]? = some x) : (bl.flatMap encT)[b * 3]? = some (.int .i64 (x.1 : Int)) /\ (bl.flatMap encT)[b * 3 + 1]? = some (.int .i64 (x.2.1 : Int)) /\ (bl.flatMap encT)[b * 3 + 2]? = some (.int .i64 (x.2.2 : Int)) :=
  ⟨by simpa using j0r lenT bl b x h 0 _ rfl, j0r lenT bl b x h 1 _ rfl, j0r lenT bl b x h 2 _ rfl⟩
theorem q2t : ∀ {bl : List B3} {b : Nat} {x y : B3} (j : Nat) (v : Value), bl[b]? = some x -> j < 3 -> (encT x).set j v = encT y -> (bl.flatMap encT).set (b * 3 + j) v = (bl.set b y).flatMap encT
  | [], b, x, y, j, v, h, _, _ => by simp at h
  | z :: bl, 0, x, y, j, v, h, hj, he => by
    simp at h; subst h
    rw [Nat.zero_mul, Nat.zero_add, List.flatMap_cons, List.set_cons_zero, List.flatMap_cons, List.set_append_left _ _ (by rw [lenT]; exact hj), he]
  | z :: bl, b + 1, x, y, j, v, h, hj, he => by
    rw [List.flatMap_cons, List.set_cons_succ, List.flatMap_cons, List.set_append_right _ _ (by rw [lenT, Nat.add_mul]; omega), lenT]
    rw [show (b + 1) * 3 + j - 3 = b * 3 + j by rw [Nat.add_mul]; omega, q2t j v (by simpa using h) hj he]
structure PK where
  pb : Nat
  eb : Nat
  qb : Nat
  ib : Nat
  bb : Nat
  ce : Nat
  cq : Nat
  ci : Nat
  cb : Nat
def PR (K : PK) (n : Nat) (el pl inn : Nat -> Nat) (bl : List B3) : List Rw :=
  [⟨145, 4, .slice (some ⟨K.pb, 0, none⟩) 1 1, 1, [.slice (some ⟨K.eb, 0, none⟩) n K.ce, .slice (some ⟨K.qb, 0, none⟩) n K.cq, .slice (some ⟨K.ib, 0, none⟩) n K.ci, .slice (some ⟨K.bb, 0, none⟩) bl.length K.cb]⟩,
   ⟨3, 1, .slice (some ⟨K.eb, 0, none⟩) n K.ce, n, (flN n el).flatMap encI⟩,
   ⟨3, 1, .slice (some ⟨K.qb, 0, none⟩) n K.cq, n, (flN n pl).flatMap encI⟩,
   ⟨3, 1, .slice (some ⟨K.ib, 0, none⟩) n K.ci, n, (flN n inn).flatMap encI⟩,
   ⟨208, 3, .slice (some ⟨K.bb, 0, none⟩) bl.length K.cb, bl.length, bl.flatMap encT⟩]
section
variable {w0 w w' w1 : World} {K : PK} {n : Nat} {el pl inn : Nat -> Nat} {bl : List B3} {rest : List Rw}
theorem y0y {base : Nat} {e : TypeId} {k n g c : Nat} {xs : List Value} (h : w.ownsRow base e k (.slice (some ⟨g, 0, none⟩) n c) n xs) : n <= c /\ c <= maxLen := by
 rcases h.2 with ⟨h2, _⟩ | ⟨g', c', cur, hv, _, _, h3, h4, _⟩
 · simp at h2
 · simp only [Value.slice.injEq] at hv
   obtain ⟨_, _, rfl⟩ := hv
   exact ⟨h3, h4⟩
theorem Rws.pCells (h : Rws w0 w (PR K n el pl inn bl ++ rest)) :
    w.cell? ⟨K.pb, 0, none⟩ = some (.slice (some ⟨K.eb, 0, none⟩) n K.ce) /\ w.cell? ⟨K.pb, 1, none⟩ = some (.slice (some ⟨K.qb, 0, none⟩) n K.cq) /\ w.cell? ⟨K.pb, 2, none⟩ = some (.slice (some ⟨K.ib, 0, none⟩) n K.ci) /\ w.cell? ⟨K.pb, 3, none⟩ = some (.slice (some ⟨K.bb, 0, none⟩) bl.length K.cb) :=
  ⟨h.cell (i := 0) rfl rfl, h.cell (i := 0) rfl rfl, h.cell (i := 0) rfl rfl, h.cell (i := 0) rfl rfl⟩
theorem Rws.pLts (h : Rws w0 w (PR K n el pl inn bl ++ rest)) : K.pb < w.heap.size /\ K.eb < w.heap.size /\ K.qb < w.heap.size /\ K.ib < w.heap.size /\ K.bb < w.heap.size :=
  ⟨(h.lt (i := 0) rfl).2, (h.lt (i := 1) rfl).2, (h.lt (i := 2) rfl).2, (h.lt (i := 3) rfl).2, (h.lt (i := 4) rfl).2⟩
theorem Rws.pCaps (h : Rws w0 w (PR K n el pl inn bl ++ rest)) : n <= K.ce /\ n <= K.cq /\ n <= K.ci /\ bl.length <= K.cb :=
  ⟨(y0y (h.get (i := 1) rfl)).1, (y0y (h.get (i := 2) rfl)).1, (y0y (h.get (i := 3) rfl)).1, (y0y (h.get (i := 4) rfl)).1⟩
theorem Rws.pNe (h : Rws w0 w (PR K n el pl inn bl ++ rest)) : K.pb ≠ K.eb /\ K.pb ≠ K.qb /\ K.pb ≠ K.ib /\ K.pb ≠ K.bb /\ K.eb ≠ K.qb /\ K.eb ≠ K.ib /\ K.eb ≠ K.bb /\ K.qb ≠ K.ib /\ K.qb ≠ K.bb /\ K.ib ≠ K.bb :=
  ⟨h.ne' (i := 0) (j := 1) rfl rfl (by decide), h.ne' (i := 0) (j := 2) rfl rfl (by decide), h.ne' (i := 0) (j := 3) rfl rfl (by decide), h.ne' (i := 0) (j := 4) rfl rfl (by decide), h.ne' (i := 1) (j := 2) rfl rfl (by decide), h.ne' (i := 1) (j := 3) rfl rfl (by decide), h.ne' (i := 1) (j := 4) rfl rfl (by decide), h.ne' (i := 2) (j := 3) rfl rfl (by decide), h.ne' (i := 2) (j := 4) rfl rfl (by decide), h.ne' (i := 3) (j := 4) rfl rfl (by decide)⟩
theorem Rws.pFz (h : Rws w0 w (PR K n el pl inn bl ++ rest)) (j : Nat) : w.frozen? ⟨K.pb, j, none⟩ = false /\ w.frozen? ⟨K.eb, j, none⟩ = false /\ w.frozen? ⟨K.qb, j, none⟩ = false /\ w.frozen? ⟨K.ib, j, none⟩ = false /\ w.frozen? ⟨K.bb, j, none⟩ = false :=
  ⟨h.fz (i := 0) rfl j, h.fz (i := 1) rfl j, h.fz (i := 2) rfl j, h.fz (i := 3) rfl j, h.fz (i := 4) rfl j⟩
theorem Rws.pEl (h : Rws w0 w (PR K n el pl inn bl ++ rest)) {i : Nat} (hi : i < n) : w.cell? ⟨K.eb, i, none⟩ = some (.int .i64 (el i : Int)) := h.cell (i := 1) rfl (v0g _ hi)
theorem Rws.pPl (h : Rws w0 w (PR K n el pl inn bl ++ rest)) {i : Nat} (hi : i < n) : w.cell? ⟨K.qb, i, none⟩ = some (.int .i64 (pl i : Int)) := h.cell (i := 2) rfl (v0g _ hi)
theorem Rws.pIn (h : Rws w0 w (PR K n el pl inn bl ++ rest)) {i : Nat} (hi : i < n) : w.cell? ⟨K.ib, i, none⟩ = some (.int .i64 (inn i : Int)) := h.cell (i := 3) rfl (v0g _ hi)
theorem Rws.pBl (h : Rws w0 w (PR K n el pl inn bl ++ rest)) {b : Nat} {x : B3} (hb : bl[b]? = some x) : w.cell? ⟨K.bb, b * 3, none⟩ = some (.int .i64 (x.1 : Int)) /\ w.cell? ⟨K.bb, b * 3 + 1, none⟩ = some (.int .i64 (x.2.1 : Int)) /\ w.cell? ⟨K.bb, b * 3 + 2, none⟩ = some (.int .i64 (x.2.2 : Int)) := by
 obtain ⟨h0, h1, h2⟩ := flT_at hb
 exact ⟨h.cell (i := 4) rfl h0, h.cell (i := 4) rfl h1, h.cell (i := 4) rfl h2⟩
theorem Rws.pSetEl (h : Rws w0 w (PR K n el pl inn bl ++ rest)) (j v : Nat) : Rws w0 (w.setCell ⟨K.eb, j, none⟩ (.int .i64 (v : Int))) (PR K n (upd el j v) pl inn bl ++ rest) := by
 have := h.set 1 rfl j (.int .i64 (v : Int)); rw [y0f] at this; exact this
theorem Rws.pSetPl (h : Rws w0 w (PR K n el pl inn bl ++ rest)) (j v : Nat) : Rws w0 (w.setCell ⟨K.qb, j, none⟩ (.int .i64 (v : Int))) (PR K n el (upd pl j v) inn bl ++ rest) := by
 have := h.set 2 rfl j (.int .i64 (v : Int)); rw [y0f] at this; exact this
theorem Rws.pSetIn (h : Rws w0 w (PR K n el pl inn bl ++ rest)) (j v : Nat) : Rws w0 (w.setCell ⟨K.ib, j, none⟩ (.int .i64 (v : Int))) (PR K n el pl (upd inn j v) bl ++ rest) := by
 have := h.set 3 rfl j (.int .i64 (v : Int)); rw [y0f] at this; exact this
theorem Rws.pSetBl (h : Rws w0 w (PR K n el pl inn bl ++ rest)) {b : Nat} {x y : B3} (hb : bl[b]? = some x) (j : Nat) (v : Value) (hj : j < 3) (he : (encT x).set j v = encT y) : Rws w0 (w.setCell ⟨K.bb, b * 3 + j, none⟩ v) (PR K n el pl inn (bl.set b y) ++ rest) := by
 have := h.set 4 rfl (b * 3 + j) v; rw [q2t j v hb hj he] at this
 have e : PR K n el pl inn (bl.set b y) = (PR K n el pl inn bl).set 4 ⟨208, 3, .slice (some ⟨K.bb, 0, none⟩) bl.length K.cb, bl.length, (bl.set b y).flatMap encT⟩ := by
   unfold PR; rw [List.length_set]; rfl
 rw [e]
 exact this
end
structure PW (w0 w : World) (K : PK) (n : Nat) (el pl inn : Nat -> Nat) (bl : List B3) (rest : List Rw) : Prop where
  rws : Rws w0 w (PR K n el pl inn bl ++ rest)
  pi : PI n el pl inn bl
  n1 : n <= 1000
end Go.Proofs.YtjchdegapadepaaGreatDoor
namespace Go.Proofs.YtjchdegapadepaaGreatDoor
open Go.RowKit Pl
theorem bdrewP {w0 w : World} {B : Nat} (h : Below B w0 w) (n : Nat) : Below B w0 (w.drewN n) := ⟨h.os, h.tape, h.output, h.size, h.block⟩
section
variable {w0 w : World} {K : PK} {n : Nat} {el pl inn : Nat -> Nat} {bl : List B3} {rest : List Rw}
theorem q0v (w : World) (b : Nat) : Calls Tryz.prog 100 #[.pointer (some ⟨b, 0, none⟩)] w fun e w' => e = .returned (.pointer (some ⟨b, 0, none⟩)) /\ w = w' := by
 go_enter Tryz.func100, Tryz.ntmps100
 go_wp2_with fail
 go_ret
 exact ⟨rfl, rfl⟩
theorem k1t (w : World) (b i n : Nat) (hi : i < n) : Calls Tryz.prog 121 #[.pointer (some ⟨b, 0, none⟩), .int .i64 i, .int .i64 n] w fun e w' => e = .returned .nilIface /\ w = w' := by
 have h1 : ¬ (n : Int) <= (i : Int) := by omega
 go_enter Tryz.func121, Tryz.ntmps121
 go_wp2_with fail
 go_ret
 exact ⟨rfl, rfl⟩
theorem x1y (h : Rws w0 w (PR K n el pl inn bl ++ rest)) : Calls Tryz.prog 148 #[.pointer (some ⟨K.pb, 0, none⟩)] w fun e w' => e = .returned (.int .i64 n) /\ w = w' := by
 obtain ⟨c0, c1, c2, c3⟩ := h.pCells
 have l0 := h.pLts.1
 clear h
 go_enter Tryz.func148, Tryz.ntmps148
 go_wp2_with fail
 refine (q0v w K.pb).mono ?_
 rintro e w1 ⟨rfl, rfl⟩
 go_wp2_with fail
 go_ret
 exact ⟨rfl, rfl⟩
theorem q0a (h : Rws w0 w (PR K n el pl inn bl ++ rest)) : Calls Tryz.prog 118 #[.pointer (some ⟨K.pb, 0, none⟩)] w fun e w' => e = .returned (.int .i64 bl.length) /\ w = w' := by
 obtain ⟨c0, c1, c2, c3⟩ := h.pCells
 have l0 := h.pLts.1
 obtain ⟨m, hm⟩ : ∃ m, m = bl.length := ⟨_, rfl⟩
 rw [<- hm] at c3 ⊢
 clear h hm
 go_enter Tryz.func118, Tryz.ntmps118
 go_wp2_with fail
 refine (q0v w K.pb).mono ?_
 rintro e w1 ⟨rfl, rfl⟩
 go_wp2_with fail
 go_ret
 exact ⟨rfl, rfl⟩
theorem x0d (h : Rws w0 w (PR K n el pl inn bl ++ rest)) (_hn : n <= 1000) {b : Nat} {x : B3} (hx : bl[b]? = some x) (b1 : x.1 < x.2.1) (b2 : x.2.1 <= n) : Calls Tryz.prog 120 #[.pointer (some ⟨K.pb, 0, none⟩), .int .i64 b] w fun e w' =>
    e = .returned (.slice (some ⟨K.eb, x.1, none⟩) (x.2.1 - x.1) (x.2.1 - x.1)) /\ Below w.heap.size w w' := by
 obtain ⟨c0, c1, c2, c3⟩ := h.pCells
 obtain ⟨l0, l1, l2, l3, l4⟩ := h.pLts
 obtain ⟨d0, d1, d2⟩ := h.pBl hx
 obtain ⟨k0, k1, k2, k3⟩ := h.pCaps
 have hbl := (List.getElem?_eq_some_iff.1 hx).1
 obtain ⟨m, hm⟩ : ∃ m, m = bl.length := ⟨_, rfl⟩
 rw [<- hm] at c3 hbl
 obtain ⟨x1, x2, x3⟩ := x
 simp only at d0 d1 d2 b1 b2 ⊢
 have q1 : (b : Int) < (m : Int) := by omega
 have q2 : (x1 : Int) <= (x2 : Int) := by omega
 have q3 : (x2 : Int) <= (K.ce : Int) := by omega
 have q4 : x1 < x2 := by omega
 clear h hx hm k0 k1 k2 k3
 go_enter Tryz.func120, Tryz.ntmps120
 go_wp2_with fail
 go_quiet (fail)
 go_wp2_with fail
 go_ret
 exact ⟨rfl, bdrewP ((Below.refl _ _).alloc (Nat.le_refl _) _) _⟩
theorem y0a (h : PW w0 w K n el pl inn bl rest) {b : Nat} {x : B3} (hx : bl[b]? = some x) : Calls Tryz.prog 120 #[.pointer (some ⟨K.pb, 0, none⟩), .int .i64 b] w fun e w' =>
    e = .returned (.slice (some ⟨K.eb, x.1, none⟩) (x.2.1 - x.1) (x.2.1 - x.1)) /\ Below w.heap.size w w' := by
 obtain ⟨b1, b2, b3⟩ := h.pi.blk b x hx
 exact x0d h.rws h.n1 hx b1 b2
theorem p1y (h : PW w0 w K n el pl inn bl rest) {b : Nat} {x : B3} (hx : bl[b]? = some x) : Calls Tryz.prog 119 #[.pointer (some ⟨K.pb, 0, none⟩), .int .i64 b] w fun e w' =>
    e = .returned (.int .i64 (el x.1 : Int)) /\ Below w.heap.size w w' := by
 obtain ⟨b1, b2, b3⟩ := h.pi.blk b x hx
 have HR := Lib.hid (y0a h hx)
 have H := Lib.hid h
 obtain ⟨x1, x2, x3⟩ := x
 simp only at b1 b2 b3 HR ⊢
 have q4 : 0 < x2 - x1 := by omega
 have q5 : x1 < n := by omega
 clear h hx b1 b2 b3
 go_enter Tryz.func119, Tryz.ntmps119
 go_wp2_with fail
 refine HR.out.mono ?_
 rintro e w1 ⟨rfl, hB⟩
 have h1 := H.out.rws.call hB
 have c0 := h1.pEl q5
 have l0 := h1.pLts.2.1
 have HB := Lib.hid hB
 clear h1 hB
 go_wp2_with fail
 go_ret
 exact ⟨rfl, HB.out⟩
theorem u0l (h : PW w0 w K n el pl inn bl rest) {b : Nat} {x : B3} (hx : bl[b]? = some x) : Calls Tryz.prog 98 #[.pointer (some ⟨K.pb, 0, none⟩), .int .i64 b] w fun e w' =>
    e = .returned (.int .i64 ((memN n inn b).length : Int)) /\ Below w.heap.size w w' := by
 have HR := Lib.hid (y0a h hx)
 rw [h.pi.rowE_len hx]
 clear h hx
 go_enter Tryz.func98, Tryz.ntmps98
 go_wp2_with fail
 refine HR.out.mono ?_
 rintro e w1 ⟨rfl, hB⟩
 have HB := Lib.hid hB
 clear hB
 go_wp2_with fail
 go_ret
 exact ⟨rfl, HB.out⟩
end
end Go.Proofs.YtjchdegapadepaaGreatDoor
namespace Go.Proofs.YtjchdegapadepaaGreatDoor
open Go.RowKit Pl
section
variable {w0 w : World} {K : PK} {n : Nat} {el pl inn : Nat -> Nat} {bl : List B3} {rest : List Rw}
set_option maxHeartbeats 2000000 in
theorem swap_any (h : Rws w0 w (PR K n el pl inn bl ++ rest)) {i k : Nat} (hi : i < n) (hk : k < n) (hei : el i < n) (hek : el k < n) :
    Calls Tryz.prog 149 #[.pointer (some ⟨K.pb, 0, none⟩), .int .i64 i, .int .i64 k] w fun e w' => e = .returned (.tuple #[]) /\ Rws w0 w' (PR K n (swE el i k) (swP el pl i k) inn bl ++ rest) := by
 obtain ⟨c0, c1, c2, c3⟩ := h.pCells
 obtain ⟨l0, l1, l2, l3, l4⟩ := h.pLts
 have d1 := h.pEl hi; have d2 := h.pEl hk
 have f1 := (h.pFz i).2.1; have f2 := (h.pFz k).2.1
 obtain ⟨n1, n2, n3, n4, n5, n6, n7, n8, n9, n10⟩ := h.pNe
 obtain ⟨a, ha⟩ : ∃ a, a = el i := ⟨_, rfl⟩
 obtain ⟨b, hb⟩ : ∃ b, b = el k := ⟨_, rfl⟩
 have hiI : (i : Int) < (n : Int) := by omega
 have hkI : (k : Int) < (n : Int) := by omega
 have haI : (a : Int) < (n : Int) := by omega
 have hbI : (b : Int) < (n : Int) := by omega
 have h1 : Rws w0 ((w.setCell ⟨K.eb, i, none⟩ (.int .i64 (b : Int))).setCell ⟨K.eb, k, none⟩ (.int .i64 (a : Int))).drew (PR K n (swE el i k) pl inn bl ++ rest) := by (
 have := ((h.pSetEl i b).pSetEl k a).drew
 rw [ha, hb] at this ⊢
 exact this)
 have g1 : swE el i k i = b := by (
 unfold swE upd
 by_cases e : i = k
 · subst e; simp [hb]
 · simp [e, hb])
 have g2 : swE el i k k = a := by unfold swE upd; simp [ha]
 rw [<- ha] at d1; rw [<- hb] at d2
 have d3 := (h.pSetEl i b).pEl hk
 have f3 := ((h.pSetEl i b).pFz k).2.1
 obtain ⟨u, hu⟩ : ∃ u, u = upd el i b k := ⟨_, rfl⟩
 rw [<- hu] at d3
 have H1 := Lib.hid h1; have G1 := Lib.hid g1; have G2 := Lib.hid g2
 have HA := Lib.hid ha; have HB := Lib.hid hb
 have han : a < n := by omega
 have hbn : b < n := by omega
 clear h h1 g1 g2 ha hb hei hek c1 c2 c3 hu
 go_enter Tryz.func149, Tryz.ntmps149
 go_wp2_with fail
 go_region
 obtain ⟨W, hW⟩ : ∃ W, W = ((w.setCell ⟨K.eb, i, none⟩ (.int .i64 (b : Int))).setCell ⟨K.eb, k, none⟩ (.int .i64 (a : Int))).drew := ⟨_, rfl⟩
 rw [<- hW] at H1 ⊢
 clear hW c0 l0 l1 l2 l3 l4 d1 d2 d3 f1 f2 f3
 obtain ⟨c0, c1, c2, c3⟩ := H1.out.pCells
 obtain ⟨l0, l1, l2, l3, l4⟩ := H1.out.pLts
 have d1 := H1.out.pEl hi; have d2 := H1.out.pEl hk
 rw [G1.out] at d1; rw [G2.out] at d2
 have e1 := H1.out.pPl han; have e2 := H1.out.pPl hbn
 have f1 := (H1.out.pFz a).2.2.1; have f2 := (H1.out.pFz b).2.2.1
 have e3 := (H1.out.pSetPl b i).pPl han
 have f3 := ((H1.out.pSetPl b i).pFz a).2.2.1
 obtain ⟨v, hv⟩ : ∃ v, v = upd pl b i a := ⟨_, rfl⟩
 rw [<- hv] at e3
 have h2 : Rws w0 ((W.setCell ⟨K.qb, b, none⟩ (.int .i64 (i : Int))).setCell ⟨K.qb, a, none⟩ (.int .i64 (k : Int))).drew (PR K n (swE el i k) (swP el pl i k) inn bl ++ rest) := by (
 unfold swP
 rw [<- HA.out, <- HB.out]
 exact ((H1.out.pSetPl b i).pSetPl a k).drew)
 have H2 := Lib.hid h2
 clear c2 c3 l3 l4 hv h2 H1 HA HB G1 G2
 go_wp2_with fail
 go_region
 go_end0
 exact ⟨rfl, H2.out⟩
end
end Go.Proofs.YtjchdegapadepaaGreatDoor
