/-
  Lemmas.
-/
import Derived.Test.YtbaccmlfnbgehaaGreatDoorGCanon
import Derived.Test.YtbaccmlfnbgehaaGreatDoorGBkEp
import Derived.Test.YtbaccmlfnbgehaaGreatDoorGRows2
import Derived.Test.YtbaccmlfnbgehaaGreatDoorGPl4
import Derived.Deep.DeepMust
import Derived.Test.YtbaccmlfnbgehaaGreatDoorGSimE
import Derived.Test.YtbaccmlfnbgehaaGreatDoorGRefReach
import Derived.Deep.QuietTactic
import Derived.BigQuiet
namespace Go.Proofs.YtbaccmlfnbgehaaGreatDoor
open Go.RowKit Pl Go.Maps
open Lib (hid)
structure RC (w wr : World) (OB n : Nat) (f : Nat → Value) (v : Value) (seen : List Int) : Prop where
  below : Below w.heap.size w wr
  row : wr.rowIs OB 3 n f
  own : wr.ownsRow (OB + 1) 3 1 v seen.length (seen.flatMap encI)
  ob : w.heap.size ≤ OB
theorem RC.set {w wr : World} {OB n : Nat} {f : Nat → Value} {v : Value} {seen : List Int} (h : RC w wr OB n f v seen) (i : Nat) (x : Value) : RC w (wr.setCell ⟨OB, i, none⟩ x) OB n (fun j => if j = i then x else f j) v seen :=
  ⟨h.below.setCell h.ob _, h.row.set i _, ownsRow_setCell_below h.own (by show OB < OB + 1; omega) _, h.ob⟩
theorem RC.congr {w wr : World} {OB n : Nat} {f g : Nat → Value} {v : Value} {seen : List Int} (h : RC w wr OB n f v seen) (e : ∀ i, i < n → f i = g i) : RC w wr OB n g v seen :=
  ⟨h.below, h.row.congr e, h.own, h.ob⟩
theorem RC.call {w wr w' : World} {OB n : Nat} {f : Nat → Value} {v : Value} {seen : List Int} (h : RC w wr OB n f v seen) (hB : Below wr.heap.size wr w') : RC w w' OB n f v seen :=
  ⟨h.below.trans (hB.mono h.below.size), h.row.of_block (hB.block _ h.row.lt), own_below h.own hB, h.ob⟩
theorem RC.push {w wr w1 : World} {OB n : Nat} {f : Nat → Value} {v v' : Value} {seen ys : List Int} (h : RC w wr OB n f v seen) (hown : w1.ownsRow (OB + 1) 3 1 v' ys.length (ys.flatMap encI)) (hg : wr.grownBy w1 v.ownBlock) : RC w w1 OB n f v' ys :=
  ⟨h.below.grown hg h.below.size (fun k hk => by have := (h.own.lt k hk).1; have := h.ob; omega), h.row.of_block (hg.block _ h.row.lt (fun e => by have := (h.own.lt _ e.symm).1; omega)), hown, h.ob⟩
theorem RC.keepc {w wr w1 : World} {OB n : Nat} {f : Nat → Value} {v : Value} {seen : List Int} (h : RC w wr OB n f v seen) (hg : wr.grownBy w1 v.ownBlock) {k : Nat} (hk : k < n) :
    w1.cell? ⟨OB, k, none⟩ = some (f k) ∧ w1.frozen? ⟨OB, k, none⟩ = false ∧ OB < w1.heap.size := by
  have h2 : w1.rowIs OB 3 n f := h.row.of_block (hg.block _ h.row.lt (fun e => by have := (h.own.lt _ e.symm).1; omega))
  exact ⟨h2.cell hk, h2.frozen k, h2.lt⟩
theorem cell_new1 {w : World} {x : Value} {T : TypeId} {g : Nat} (h : g = w.heap.size) : (w.alloc (.cells #[x] T)).cell? ⟨g, 0, none⟩ = some x := by subst h; simp [go_sem]
theorem idx_first : ∀ {l : List Int} {j : Nat} {x : Int}, (∀ i, i < j → l[i]? ≠ some x) → l[j]? = some x → l.idxOf x = j
  | [], j, x, _, h => by simp at h
  | y :: l, 0, x, _, h => by simp at h; subst h; simp
  | y :: l, j + 1, x, hn, h => by
    have h0 := hn 0 (by omega)
    have hb : (y == x) = false := by simpa using h0
    rw [List.idxOf_cons, hb, idx_first (j := j) (fun i hi => by have := hn (i + 1) (by omega); simpa using this) (by simpa using h)]; rfl
theorem not_mem_of {l : List Int} {x : Int} (h : ∀ i, i < l.length → l[i]? ≠ some x) : x ∉ l := by
  intro hx
  obtain ⟨i, hi⟩ := List.getElem?_of_mem hx
  exact h i (List.getElem?_eq_some_iff.1 hi).1 hi
set_option maxRecDepth 100000 in
set_option maxHeartbeats 2000000 in
theorem refCanon_any {w : World} {a : Option Addr} {b off c : Nat} {xs : List Int} (hS : SlAt encI 1 w a b off xs) (hn : xs.length ≤ 1000000) :
    Calls Tryz.prog 41 #[.slice a xs.length c] w fun e w' => ∃ v, e = .returned v ∧ w'.ownsRow w.heap.size 3 1 v xs.length ((canon xs).flatMap encI) ∧ Below w.heap.size w w' := by
  obtain ⟨n, hnn⟩ : ∃ n, n = xs.length := ⟨_, rfl⟩
  rw [← hnn] at hn ⊢
  have hmk := run_make_row' (P := Tryz.prog) 50 3 (.int .i64 0) 8 Tryz.underlying50 (by kernel_rfl) rfl .i64 .i64 n (by omega) (by omega)
  have HS := hid hS; have HNN := hid hnn
  clear hS hnn
  go_enter Tryz.func41, Tryz.ntmps41
  go_wp2_with fail
  have h0 : RC w (w.alloc (.cells (madeCells #[.int .i64 0] n) 3)) w.heap.size n (rowAtK xs 0) (.slice none 0 0) (dist (xs.take 0)) :=
    ⟨(Below.refl _ _).alloc (Nat.le_refl _) _, (World.rowIs_made w (.int .i64 0) n 3).congr (fun i _ => by simp [rowAtK]), ⟨rfl, .inl ⟨rfl, rfl⟩⟩, Nat.le_refl _⟩
  have H0 := hid h0
  clear h0 hmk
  go_loopw [4, 5, 6] (fun v4 v5 _ wr => ∃ (k : Nat) (aa : Option Addr) (cc : Nat), k ≤ n ∧ v5 = .int .i64 k ∧ v4 = .slice aa (dist (xs.take k)).length cc ∧ RC w wr w.heap.size n (rowAtK xs k) (.slice aa (dist (xs.take k)).length cc) (dist (xs.take k)))
    (fun _ v5 _ _ => n - (intOf v5).toNat)
  case atStart => exact ⟨0, none, 0, Nat.zero_le _, rfl, rfl, H0.out⟩
  case round =>
    obtain ⟨k, aa, cc, hk, rfl, rfl, hrc⟩ := hrel
    have HR := hid hrc
    clear hrc H0
    by_cases hlt : k < n
    · obtain ⟨x, hx⟩ := getElem?_of_lt (xs := xs) (i := k) (by have := HNN.out; omega)
      have hkn : (k : Int) < (n : Int) := by omega
      have HX := hid hx
      have hdl : (dist (xs.take k)).length ≤ k := by have := dist_len (xs.take k); simp at this; omega
      obtain ⟨m, hm⟩ : ∃ m, m = (dist (xs.take k)).length := ⟨_, rfl⟩
      rw [← hm] at hdl ⊢
      have HM := hid hm
      clear hx hm
      go_wp2_with fail
      go_loopw [6] (fun v6 w2 => ∃ j u : Nat, j ≤ m ∧ v6 = .int .i64 j ∧ (∀ i, i < j → (dist (xs.take k))[i]? ≠ some x) ∧ w2 = wr.drewN u)
        (fun v6 _ => m - (intOf v6).toNat)
      case atStart => exact ⟨0, 0, Nat.zero_le _, rfl, by intro i hi; omega, rfl⟩
      case round =>
        obtain ⟨j, u, hj, rfl, hne, rfl⟩ := hrel
        have HNE := hid hne
        clear hne
        have hS2 := HS.out.below HR.out.below (Nat.le_refl _)
        obtain rfl := hS2.ad (by have := HNN.out; omega)
        have hcx := hS2.ci HX.out
        have hct : wr.cell? ⟨w.heap.size, k, none⟩ = some (.int .i64 0) := by have := HR.out.row.cell hlt; simpa [rowAtK] using this
        have hft : wr.frozen? ⟨w.heap.size, k, none⟩ = false := HR.out.row.frozen k
        have hxb := hS2.lt (by have := HNN.out; omega)
        have hwl : w.heap.size < wr.heap.size := HR.out.row.lt
        clear hS2
        by_cases hjm : j < m
        · obtain ⟨ga, gc, g, hv, _, _, hsl, _⟩ := slAt_own lenI HR.out.own
          simp only [Value.slice.injEq] at hv
          obtain ⟨rfl, _, rfl⟩ := hv
          have hjd : j < (dist (xs.take k)).length := by rw [← HM.out]; exact hjm
          obtain rfl := hsl.ad (by omega)
          obtain ⟨y, hy⟩ := getElem?_of_lt hjd
          have hcy := hsl.ci hy
          simp only [Nat.zero_add] at hcy
          have hjm' : (j : Int) < (m : Int) := by omega
          have hjmd : decide ((j : Int) < (m : Int)) = true := by simp; omega
          have HY := hid hy
          clear hsl hy hjd
          by_cases hxy : y = x
          · have e1 : (y != x) = false := by simp [hxy]
            have e2 : (y == x) = true := by simp [hxy]
            have e3 : ((j : Int) == (m : Int)) = false := by simp; omega
            have HXY := hid hxy
            clear hxy
            go_wp2_with fail
            go_quiet (fail)
            go_wp2
            have hy2 := HY.out
            rw [HXY.out] at hy2
            have hix := idx_first HNE.out hy2
            have hin : x ∈ dist (xs.take k) := List.mem_of_getElem? hy2
            have hd : dist (xs.take (k + 1)) = dist (xs.take k) := by rw [take_snoc HX.out, dist_snoc]; unfold addN; rw [if_pos hin]
            have h1 := fun uu => ((HR.out.call (bdrew (n := uu) (Below.refl _ _))).set k (.int .i64 j)).congr (g := rowAtK xs (k + 1)) (fun i _ => by
              have := rowAtK_step HX.out i
              rw [hd, hix] at this
              exact this)
            have hml : m = (dist (xs.take (k + 1))).length := by rw [hd]; exact HM.out
            rw [← hd] at h1
            have H1 := hid h1
            have HD := hid hml
            clear h1 hix hin hd hy2 hml
            go_roundw
            case rel => exact ⟨k + 1, _, _, by omega, by go_num, by rw [HD.out], H1.out _⟩
            case measure => simp [intOf]; omega
          · have e1 : (y != x) = true := by simp [hxy]
            have e2 : (y == x) = false := by simp [hxy]
            have HXY := hid hxy
            clear hxy
            go_wp2_with fail
            go_quiet (fail)
            go_wp2
            go_roundw
            case rel => exact ⟨j + 1, _, by omega, by go_num, by
              intro i hi
              by_cases e : i = j
              · subst e; rw [HY.out]; intro h; exact HXY.out (by simpa using h)
              · exact HNE.out i (by omega), rfl⟩
            case measure => simp [intOf]; omega
        · obtain rfl : j = m := by omega
          have hjmd : decide ((j : Int) < (j : Int)) = false := by simp
          have e3 : ((j : Int) == (j : Int)) = true := by simp
          go_wp2_with fail
          go_quiet (fail)
          have hrj : ∀ uu, RC w ((wr.drewN uu).alloc (.cells #[.int .i64 x] 3)) w.heap.size n (rowAtK xs k) (.slice aa j cc) (dist (xs.take k)) := fun uu => by
            have h := HR.out; rw [← HM.out] at h; exact (h.call (bdrew (n := uu) (Below.refl _ _))).call ((Below.refl _ _).alloc (Nat.le_refl _) _)
          have hownj : ∀ uu, ((wr.drewN uu).alloc (.cells #[.int .i64 x] 3)).ownsRow (w.heap.size + 1) 3 1 (.slice aa j cc) j ((dist (xs.take k)).flatMap encI) := fun uu => by
            have h := (hrj uu).own; rw [← HM.out] at h; exact h
          have HRJ := hid hrj
          have HOJ := hid hownj
          have hbb : ∀ uu, w.heap.size + 1 ≤ ((wr.drewN uu).alloc (.cells #[.int .i64 x] 3)).heap.size := fun uu => by
            have h1 : wr.heap.size + 1 ≤ ((wr.drewN uu).alloc (.cells #[.int .i64 x] 3)).heap.size := by simp
            omega
          have HBB := hid hbb
          clear hownj hbb hrj
          go_wp2_with (at_builtin; go_must (refine wpList_app1 rfl _ _ _ rfl rowI (Below.refl _ _) (HBB.out _) rfl (HOJ.out _) ⟨wr.heap.size, 0, none⟩ 1 1 [.int .i64 x] rfl rfl (cells1 (cell_new1 rfl)) (by simp [Value.oneCell']) (by decide) (by omega) (by unfold maxLen; omega) ?_); intro g cap w1 hown1 _ hg1; have kp := RC.keepc (HRJ.out _) hg1 hlt; have kp0 := kp.1; have kp1 := kp.2.1; have kp2 := kp.2.2; clear kp)
          have hmem : x ∉ dist (xs.take k) := not_mem_of (fun i hi => HNE.out i (by have := HM.out; omega))
          have hd : dist (xs.take (k + 1)) = dist (xs.take k) ++ [x] := by rw [take_snoc HX.out, dist_snoc]; unfold addN; rw [if_neg hmem]
          have hix : (dist (xs.take (k + 1))).idxOf x = j := by rw [hd, List.idxOf_append, HM.out]; simp [hmem]
          have hlen : j + 1 = (dist (xs.take (k + 1))).length := by rw [hd, List.length_append, HM.out]; rfl
          have h1 := (RC.push (v' := .slice (some ⟨g, 0, none⟩) (j + 1) cap) (ys := dist (xs.take (k + 1))) (HRJ.out _) (by rw [← hlen, hd, List.flatMap_append]; exact hown1) hg1).set k (.int .i64 (j : Int))
          have h2 := h1.congr (g := rowAtK xs (k + 1)) (fun i _ => by
            have := rowAtK_step HX.out i
            rw [hix] at this
            exact this)
          have hlen2 := hlen
          rw [hlen] at h2
          have H2 := hid h2; have HL := hid hlen2
          clear hmem hd hix hlen h1 h2 hlen2 hown1 hg1 kp0 kp1 kp2
          go_roundw
          case rel => exact ⟨k + 1, some ⟨g, 0, none⟩, cap, by omega, by go_num, by rw [← HL.out], H2.out⟩
          case measure => simp [intOf]; omega
    · obtain rfl : k = n := by omega
      go_wp2
      go_ret
      refine ⟨_, rfl, own_rowIs HR.out.row (by rw [canon_len]; exact HNN.out.symm) ?_ (by unfold maxLen; omega) (Nat.le_refl _), HR.out.below⟩
      intro i x hx
      rw [canon_get] at hx
      obtain ⟨y, hy, rfl⟩ := Option.map_eq_some_iff.1 hx
      have hi := (List.getElem?_eq_some_iff.1 hy).1
      unfold rowAtK
      rw [if_pos (by have := HNN.out; omega), List.getD_eq_getElem?_getD, hy]; rfl
end Go.Proofs.YtbaccmlfnbgehaaGreatDoor
namespace Go.Proofs.YtbaccmlfnbgehaaGreatDoor
open Go.RowKit Pl
open Lib (hid)
set_option maxRecDepth 100000 in
set_option maxHeartbeats 8000000 in
theorem meets17_any {s : Lts} {n : Nat} (hr : s.Right) (hn : s.st = (n : Int)) {w : World} {ob oc ib ic : Nat} (hso : StepsIn w ob n (fun p => s.outs (p : Int))) {G : Nat → Nat → Bool} (hbi : BoolsIn w ib n G) {p q : Nat} (hp : p < n) (hq : q < n) :
    Calls Tryz.prog 34 #[.slice (some ⟨ob, 0, none⟩) n oc, .slice (some ⟨ib, 0, none⟩) n ic, .int .i64 p, .int .i64 q] w fun e w' => e = .returned (.bool (doesB s G p q)) ∧ ∃ m, w' = w.drewN m := by
  obtain ⟨pa, pc, pb, po, cp, hps⟩ := hso.at_ p hp
  obtain ⟨qa, qc, qb, qo, cq, hqs⟩ := hso.at_ q hq
  have ol := hso.lt
  have hrg : ∀ x ∈ s.outs (p : Int), 0 ≤ x.2 ∧ x.2 < (n : Int) := fun x hx => by
    have h := offB_false.1 (hr.edges _ (mem_outs.1 hx))
    simp only at h
    omega
  have hrq : ∀ x ∈ s.outs (q : Int), 0 ≤ x.2 ∧ x.2 < (n : Int) := fun x hx => by
    have h := offB_false.1 (hr.edges _ (mem_outs.1 hx))
    simp only at h
    omega
  have hstep : ∀ x, stepD s G q x = (s.outs (q : Int)).any (fun y => decide (y.1 = x.1) && G x.2.toNat y.2.toNat) := fun x => rfl
  have hdo : doesB s G p q = (s.outs (p : Int)).all (stepD s G q) := rfl
  have hpl : (s.outs (p : Int)).length ≤ 10000 := outs_len hr _
  have hql : (s.outs (q : Int)).length ≤ 10000 := outs_len hr _
  obtain ⟨P, hP⟩ : ∃ P, P = s.outs (p : Int) := ⟨_, rfl⟩
  obtain ⟨Q, hQ⟩ : ∃ Q, Q = s.outs (q : Int) := ⟨_, rfl⟩
  obtain ⟨F, hF⟩ : ∃ F, F = stepD s G q := ⟨_, rfl⟩
  rw [← hP] at cp hps hrg hdo hpl
  rw [← hQ] at cq hqs hrq hstep hql
  rw [← hF] at hstep hdo
  obtain ⟨pl, hplE⟩ : ∃ pl, pl = P.length := ⟨_, rfl⟩
  obtain ⟨ql, hqlE⟩ : ∃ ql, ql = Q.length := ⟨_, rfl⟩
  rw [← hplE] at cp hpl
  rw [← hqlE] at cq hql
  have hpI : (p : Int) < (n : Int) := by omega
  have hqI : (q : Int) < (n : Int) := by omega
  have HPS := hid hps; have HQS := hid hqs; have HRG := hid hrg; have HRQ := hid hrq; have HST := hid hstep; have HDO := hid hdo; have HPL := hid hplE; have HQL := hid hqlE; have HBI := hid hbi
  clear hps hqs hrg hrq hstep hdo hplE hqlE hP hQ hF hso hbi hr hn
  go_enter Tryz.func34, Tryz.ntmps34
  go_wp2_with fail
  go_loopw [9, 10, 11] (fun v9 _ _ wr => ∃ i : Nat, v9 = .int .i64 i ∧ i ≤ pl ∧ (∀ x ∈ P.take i, F x = true) ∧ ∃ m, wr = w.drewN m) (fun v9 _ _ _ => pl - (intOf v9).toNat)
  case atStart => exact ⟨0, rfl, Nat.zero_le _, by simp, 0, rfl⟩
  case round => as_aux_lemma =>
    obtain ⟨i, rfl, hi, hall, m, rfl⟩ := hrel
    have HALL := hid hall
    clear hall
    by_cases hil : i < pl
    · have hiI : (i : Int) < (pl : Int) := by omega
      obtain ⟨x, hx⟩ := getElem?_of_lt (xs := P) (i := i) (by rw [← HPL.out]; exact hil)
      obtain rfl := HPS.out.ad (by rw [← HPL.out]; omega)
      have d0 := HPS.out.s0 hx; have d1 := HPS.out.s1 hx
      have dl := HPS.out.lt (by rw [← HPL.out]; omega)
      obtain ⟨t1, t2⟩ := HRG.out x (List.mem_of_getElem? hx)
      have HXI := hid hx
      obtain ⟨x1, x2⟩ := x
      simp only at d0 d1 t1 t2
      obtain ⟨t, rfl⟩ := Int.eq_ofNat_of_zero_le t1
      have htn : t < n := by omega
      have htI : (t : Int) < (n : Int) := by omega
      obtain ⟨bt, b0, hbt⟩ := HBI.out.at_ t htn
      have bl := World.block_lt_of_cell? _ _ b0
      have HBT := hid hbt
      have hfx : F (x1, (t : Int)) = Q.any (fun y => decide (y.1 = x1) && G t y.2.toNat) := by rw [HST.out]; simp
      have HFX := hid hfx
      clear hx t1 t2 hbt hfx
      go_wp2_with fail
      go_loopw [10, 11] (fun v10 v11 wr => ∃ k : Nat, v11 = .int .i64 k ∧ k ≤ ql ∧ v10 = .bool ((Q.take k).any (fun y => decide (y.1 = x1) && G t y.2.toNat)) ∧ ∃ m, wr = w.drewN m) (fun _ v11 _ => ql - (intOf v11).toNat)
      case atStart => exact ⟨0, rfl, Nat.zero_le _, by simp, m, rfl⟩
      case round => as_aux_lemma =>
        obtain ⟨k, rfl, hk, rfl, m2, rfl⟩ := hrel
        have HLE : Hid ((Q.take k).any (fun y => decide (y.1 = x1) && G t y.2.toNat) = true → F (x1, (t : Int)) = true) := hid (fun h => by
          rw [HFX.out, List.any_eq_true] at *
          obtain ⟨y, hy, h2⟩ := h
          exact ⟨y, List.mem_of_mem_take hy, h2⟩)
        have HEN : Hid (k = ql → (Q.take k).any (fun y => decide (y.1 = x1) && G t y.2.toNat) = F (x1, (t : Int))) := hid (fun h => by
          rw [HFX.out, List.take_of_length_le (by rw [← HQL.out]; omega)])
        obtain ⟨bm, hbm⟩ : ∃ bm, bm = (Q.take k).any (fun y => decide (y.1 = x1) && G t y.2.toNat) := ⟨_, rfl⟩
        have HBM := hid hbm
        rw [← hbm] at HLE HEN ⊢
        clear hbm
        by_cases hkq : k < ql
        · have hkI : (k : Int) < (ql : Int) := by omega
          obtain rfl | rfl : bm = false ∨ bm = true := by cases bm; exact .inl rfl; exact .inr rfl
          · obtain ⟨y, hy⟩ := getElem?_of_lt (xs := Q) (i := k) (by rw [← HQL.out]; exact hkq)
            obtain rfl := HQS.out.ad (by rw [← HQL.out]; omega)
            have e0 := HQS.out.s0 hy; have e1 := HQS.out.s1 hy
            have el := HQS.out.lt (by rw [← HQL.out]; omega)
            obtain ⟨u1, u2⟩ := HRQ.out y (List.mem_of_getElem? hy)
            have HSN : Hid ((Q.take (k + 1)).any (fun y => decide (y.1 = x1) && G t y.2.toNat) = (decide (y.1 = x1) && G t y.2.toNat)) := hid (by
              rw [take_snoc hy, List.any_append, ← HBM.out]; simp)
            obtain ⟨y1, y2⟩ := y
            simp only at e0 e1 u1 u2 HSN
            obtain ⟨u, rfl⟩ := Int.eq_ofNat_of_zero_le u1
            have hun : u < n := by omega
            have huI : (u : Int) < (n : Int) := by omega
            rw [Int.toNat_natCast] at HSN
            have g0 := HBT.out.cell hun
            have gl := HBT.out.lt
            obtain ⟨gv, hgv⟩ : ∃ gv, gv = G t u := ⟨_, rfl⟩
            rw [← hgv] at g0 HSN
            clear hy u1 u2 hgv
            by_cases h1 : y1 = x1
            · subst h1
              have hb : (y1 == y1) = true := by simp
              go_wp2_with fail
              go_quiet (fail)
              go_wp2_with fail
              go_roundw
              case rel => exact ⟨k + 1, by go_num, by omega, by rw [HSN.out]; simp, _, rfl⟩
              case measure => simp [intOf]; omega
            · have hb : (y1 == x1) = false := by simp [h1]
              go_wp2_with fail
              go_quiet (fail)
              go_wp2_with fail
              go_roundw
              case rel => exact ⟨k + 1, by go_num, by omega, by rw [HSN.out]; simp [h1], _, rfl⟩
              case measure => simp [intOf]; omega
          · have HT := hid (HLE.out rfl)
            have HALL2 : Hid (∀ x ∈ P.take (i + 1), F x = true) := hid (fun x hx => by
              rw [take_snoc HXI.out] at hx
              rcases List.mem_append.1 hx with hx | hx
              · exact HALL.out x hx
              · simp only [List.mem_singleton] at hx
                subst hx
                exact HT.out)
            clear HLE HEN HBM
            go_wp2_with fail
            go_roundw
            case rel => exact ⟨i + 1, by go_num, by omega, HALL2.out, _, rfl⟩
            case measure => simp [intOf]; omega
        · obtain rfl : ql = k := by omega
          have HE := hid (HEN.out rfl)
          clear HLE HEN HBM
          obtain rfl | rfl : bm = false ∨ bm = true := by cases bm; exact .inl rfl; exact .inr rfl
          · have hf : doesB s G p q = false := by
              rw [HDO.out, List.all_eq_false]
              exact ⟨_, List.mem_of_getElem? HXI.out, by rw [← HE.out]; simp⟩
            have HF2 := hid hf
            clear hf
            go_wp2_with fail
            go_ret
            exact ⟨by rw [HF2.out]; rfl, _, rfl⟩
          · have HALL2 : Hid (∀ x ∈ P.take (i + 1), F x = true) := hid (fun x hx => by
              rw [take_snoc HXI.out] at hx
              rcases List.mem_append.1 hx with hx | hx
              · exact HALL.out x hx
              · simp only [List.mem_singleton] at hx
                subst hx
                exact HE.out.symm)
            go_wp2_with fail
            go_roundw
            case rel => exact ⟨i + 1, by go_num, by omega, HALL2.out, _, rfl⟩
            case measure => simp [intOf]; omega
    · obtain rfl : pl = i := by omega
      have hf : doesB s G p q = true := by
        rw [HDO.out, List.all_eq_true]
        intro x hx
        exact HALL.out x (by rw [List.take_of_length_le (by rw [← HPL.out]; exact Nat.le_refl _)]; exact hx)
      have HF2 := hid hf
      clear hf
      go_wp2_with fail
      go_ret
      exact ⟨by rw [HF2.out]; rfl, _, rfl⟩
end Go.Proofs.YtbaccmlfnbgehaaGreatDoor
