/-
  law9.StrongEdges. (Printed by wip/gen_sedges.py.)
-/
import Derived.Test.YtfakdgljilmpkaaGreatDoorLawRel
import Derived.Test.YtfakdgljilmpkaaGreatDoorGEqual
import Derived.Deep.RegionHeldLaw
import Derived.Deep.DeepCutAuto
namespace Go.Proofs.YtfakdgljilmpkaaGreatDoor
open Go.RowKit Pl

/-- A list of edges, the region's own. -/
structure GW (w2 wr : World) (out : List E) (v : Value) : Prop where
  own : wr.ownsRow w2.heap.size 35 3 v out.length (out.flatMap encE)
  bel : Below w2.heap.size w2 wr
theorem GW.nil {w2 wr : World} (h : Below w2.heap.size w2 wr) : GW w2 wr [] (.slice none 0 0) := ⟨World.ownsRow_nil _ _ _ _, h⟩
theorem GW.call {w2 wr w' : World} {out : List E} {v : Value} (h : GW w2 wr out v) (hB : Below wr.heap.size wr w') : GW w2 w' out v :=
  ⟨own_below h.own hB, h.bel.trans (hB.mono h.bel.size)⟩
theorem GW.alloc {w2 wr : World} {out : List E} {v : Value} (h : GW w2 wr out v) (o : Obj) : GW w2 (wr.alloc o) out v := h.call ((Below.refl _ _).alloc (Nat.le_refl _) o)
theorem GW.blk {w2 wr : World} {out : List E} {g n c : Nat} (h : GW w2 wr out (.slice (some ⟨g, 0, none⟩) n c)) : g < wr.heap.size := (h.own.lt g rfl).2

/-- An append to it, at a step of a region. -/
theorem step_gw {w2 w : World} {ops : Array Oper} {o : Oper} {a : Act} {K : Act → World → Prop} {Q : Exit → Act → World → Prop} {F : Prop} (hgd : o.guard = none) (s x : Operand)
    (ho : o.op = .call { callee := .builtin .append, args := #[s, x], argTypes := #[22, 22] })
    {v : Value} {out : List E} (hs : a.eval s = v) (hw : GW w2 w out v) (ad : Addr) (m c : Nat) (news : List E) (hx : a.eval x = .slice (some ad) m c) (hl : news.length = m)
    (hnews : ∀ j u, (news.flatMap encE)[j]? = some u → w.cell? (ad.add j) = some u) (N : Nat) (hN : N = out.length + m) (hp : 0 < N) (hmax : N ≤ 1000000)
    (h : ∀ g cap w', GW w2 w' (out ++ news) (.slice (some ⟨g, 0, none⟩) N cap) → (∀ b, b < w.heap.size → v.ownBlock ≠ some b → w'.heap[b]? = w.heap[b]?) → w2.heap.size ≤ g → K (a.put o.dst (.slice (some ⟨g, 0, none⟩) N cap)) w') :
    if Region.wanted o (yielded ops a.tmps) = true then Oper.wp Tryz.prog o a w K Q else F := by
  subst hN
  refine step_app hgd s x _ ho rowE hs hw.own ad m c (news.flatMap encE) hx (by rw [length_flatMap lenE, hl]) hnews (fun u hu => ?_) (by omega) (by unfold maxLen; omega) hw.bel.size (fun v' w' h2 h3 => ?_)
  · obtain ⟨y, _, hy⟩ := List.mem_flatMap.1 hu
    simp [encE] at hy
    rcases hy with rfl | rfl | rfl <;> rfl
  · obtain ⟨g, cap, rfl, hg, _⟩ := h2.form hp
    refine h g cap w' ⟨?_, hw.bel.grown h3 hw.bel.size (fun k hk => (hw.own.lt k hk).1)⟩ (fun b hb hn => h3.block b hb (fun e => hn e.symm)) hg
    rw [List.flatMap_append, List.length_append, hl]
    exact h2
theorem lit3 {w : World} {eb : Nat} {x : E} (h : w.heap[eb]? = some (.cells #[.int .i64 x.1, .int .i64 x.2.1, .int .i64 x.2.2] 35 (0, 0))) : ∀ j u, ([x].flatMap encE)[j]? = some u → w.cell? ((⟨eb, 0, none⟩ : Addr).add j) = some u :=
  cells3 (by simp [World.cell?, h]) (by simp [World.cell?, h]) (by simp [World.cell?, h])

/-- What lasts behind the region of appends and the store. -/
theorem behind9 {w0 W : World} {x y z : Int} {v1 : Value} {tb g m cap : Nat} {es : List E} (h0 : w0.heap.size = tb + 1)
    (hy : w0.heap[tb]? = some (.cells #[.int .i64 x, .int .i64 y, .int .i64 z, v1] 24 (0, 0)))
    {w2 : World} (hw2 : Below w0.heap.size w0 w2) (hg : GW w2 W es (.slice (some ⟨g, 0, none⟩) m cap)) (hm : 0 < es.length) :
    Below tb w0 (W.setCell ⟨tb, 3, none⟩ (.slice (some ⟨g, 0, none⟩) m cap)) ∧
    (W.setCell ⟨tb, 3, none⟩ (.slice (some ⟨g, 0, none⟩) m cap)).heap[tb]? = some (.cells #[.int .i64 x, .int .i64 y, .int .i64 z, .slice (some ⟨g, 0, none⟩) m cap] 24 (0, 0)) ∧
    SlAt encE 3 (W.setCell ⟨tb, 3, none⟩ (.slice (some ⟨g, 0, none⟩) m cap)) (some ⟨g, 0, none⟩) g 0 es := by
  have hb2 := hw2.trans (hg.bel.mono hw2.size)
  have hs := hw2.size
  have hb3 : Below tb w0 W := hb2.mono (show tb ≤ w0.heap.size by omega)
  refine ⟨hb3.setCell (Nat.le_refl _) _, ?_, ?_⟩
  · exact heap_setCell_same W tb 3 _ _ _ (by rw [hb2.block _ (by omega)]; exact hy)
  · obtain ⟨a1, c1, b1, hv, _, _, h1, h2⟩ := slAt_own lenE hg.own
    have had := h1.ad hm
    simp only [Value.slice.injEq] at hv
    obtain ⟨ha, _, _⟩ := hv
    rw [had] at ha
    simp only [Option.some.injEq, Addr.mk.injEq] at ha
    obtain ⟨rfl, _, _⟩ := ha
    have h3 := h2 hm
    exact (show SlAt encE 3 W (some ⟨g, 0, none⟩) g 0 es by rw [had] at h1; exact h1).setOther (fun _ => by show g ≠ tb; omega) _

set_option maxRecDepth 100000 in
set_option maxHeartbeats 16000000 in
theorem strongEdges_any {w : World} {p0 pc : Addr} (hG : GErr 0 p0 w) (hC : GErr 2 pc w) (hT : ErrType w) {s : Lts} {a : Option Addr} {b off c : Nat} (hS : SlAt encE 3 w a b off s.es) (hcap : s.es.length ≤ c) (x : Int) :
    Calls Tryz.prog 6 #[.agg #[.int .i64 s.st, .int .i64 s.lb, .int .i64 s.s0, .slice a s.es.length c], .int .i64 x] w fun e w' => e = .returned (.bool true) ∧ Below w.heap.size w w' := by
  have hB0 := (Below.refl w.heap.size w).alloc (Nat.le_refl _) (Obj.cells #[.int .i64 s.st, .int .i64 s.lb, .int .i64 s.s0, .slice a s.es.length c] 24)
  have hbx := heap_alloc_new w (Obj.cells #[.int .i64 s.st, .int .i64 s.lb, .int .i64 s.s0, .slice a s.es.length c] 24)
  have HG := Lib.hid hG; have HC := Lib.hid hC; have HT := Lib.hid hT; have HS := Lib.hid hS; have HB0 := Lib.hid hB0; have HBX := Lib.hid hbx
  have HSM := Lib.hid (small9_any s.s0 s.st s.lb a s.es.length c (w.alloc (Obj.cells #[.int .i64 s.st, .int .i64 s.lb, .int .i64 s.s0, .slice a s.es.length c] 24)))
  clear hG hC hT hS hB0 hbx
  have ALV : RowKit.Hid (∀ w1 : World, Below w.heap.size w w1 → Calls Tryz.prog 16 #[] w1 fun e w' => e = .returned (.bool true) ∧ Below w.heap.size w w' ∧ Below w1.heap.size w1 w') := Lib.hid (by
    intro w1 h1
    refine (alive9_any (HG.out.below h1) (HC.out.below h1)).mono ?_
    rintro e w' ⟨rfl, hB⟩
    exact ⟨rfl, h1.trans (hB.mono h1.size), hB⟩)
  go_enter Tryz.func6, Tryz.ntmps6
  go_wp2_with fail
  refine HSM.out.mono ?_
  rintro e w1 ⟨rfl, hB⟩
  obtain ⟨m, hm⟩ : ∃ m, m = (decide (s.st ≤ 80) && decide (s.es.length ≤ 600)) := ⟨_, rfl⟩
  rw [← hm]
  have hb1 := HB0.out.trans (hB.mono (by simp))
  have hx1 := (hB.block w.heap.size (by simp)).trans HBX.out
  have HB1 := Lib.hid hb1; have HM := Lib.hid hm
  obtain ⟨x0, x1, x2, x3, x4⟩ := sys9 hx1
  have HX1 := Lib.hid hx1
  clear hb1 hm hB hx1 HBX HB0 HSM
  cases m
  · go_wp2_with fail
    refine (ALV.out _ HB1.out).mono ?_
    rintro e w2 ⟨rfl, hB, _⟩
    go_wp2
    go_ret
    exact ⟨rfl, hB⟩
  by_cases hl0 : s.es.length = 0
  · have hlB : ((s.es.length : Int) == 0) = true := by simp [hl0]
    clear hl0
    go_wp2_with fail
    refine (ALV.out _ HB1.out).mono ?_
    rintro e w2 ⟨rfl, hB, _⟩
    go_wp2
    go_ret
    exact ⟨rfl, hB⟩
  have hlB : ((s.es.length : Int) == 0) = false := by rw [beq_eq_false_iff_ne]; omega
  by_cases hz : s.st = 0
  · have hzB : (s.st == 0) = true := by simp [hz]
    clear hz hl0
    go_wp2_with fail
    refine (ALV.out _ HB1.out).mono ?_
    rintro e w2 ⟨rfl, hB, _⟩
    go_wp2
    go_ret
    exact ⟨rfl, hB⟩
  have hzB : (s.st == 0) = false := by simp [hz]
  by_cases hr : ¬ s.Right
  · have HNO := Lib.hid (strClassesNo_any (c := c) hr (HG.out.below HB1.out) (HT.out.below HB1.out) (HS.out.below HB1.out (Nat.le_refl _)))
    clear hr
    go_wp2_with fail
    refine HNO.out.mono ?_
    rintro e w2 ⟨v, rfl, hf, hB⟩
    obtain ⟨v1, hf, _⟩ := hf
    obtain ⟨fb, rfl, _⟩ := hf.ex
    have HB2 := Lib.hid (HB1.out.trans (hB.mono HB1.out.size))
    clear hB hf HNO
    go_wp2_with fail
    refine (ALV.out _ HB2.out).mono ?_
    rintro e w3 ⟨rfl, hB, _⟩
    go_wp2
    go_ret
    exact ⟨rfl, hB⟩
  have hr := Classical.not_not.1 hr
  have h0 := hr.st0
  have hm := HM.out
  simp only [Bool.true_eq, Bool.and_eq_true, decide_eq_true_eq] at hm
  obtain ⟨h80, h600⟩ := hm
  obtain ⟨st, lb, s0, es⟩ := s
  simp only at h80 h600 h0 x0 x1 x2 x3 HX1 HS hz hzB hl0 hlB hcap
  obtain ⟨n, rfl⟩ := Int.eq_ofNat_of_zero_le h0.1
  have hn3 : n ≤ 80 := by omega
  have hn0 : 0 < n := by omega
  obtain ⟨z0, hz0⟩ := Int.eq_ofNat_of_zero_le h0.2.2.2.2.1
  subst hz0
  have hz80 : z0 ≤ 80 := by omega
  have HR := Lib.hid hr
  have HCL := Lib.hid (strClasses_any (c := c) (n := n) HR.out rfl (HG.out.below HB1.out) (HS.out.below HB1.out (Nat.le_refl _)))
  obtain rfl := HS.out.ad (by omega)
  obtain ⟨el, hel⟩ : ∃ el, el = es.length := ⟨_, rfl⟩
  rw [← hel] at h600 hl0 hlB hcap HCL x3 HX1 ⊢
  have HEL := Lib.hid hel
  have hel0 : 0 < el := by omega
  have HCAP := Lib.hid hcap
  clear h80 h0 hr HM hz hel hl0 hcap
  go_wp2_with fail
  refine HCL.out.mono ?_
  unfold StrClasses
  rintro e w3 ⟨inn, ca, cc, hbig, rfl, hown, hB⟩
  have hb3 := HB1.out.trans (hB.mono HB1.out.size)
  have hx3 := (hB.block w.heap.size x4).trans HX1.out
  clear x0 x1 x2 x3 x4
  have hcl : (canon (flN n inn)).length = n := by rw [canon_len, flN_len]
  have hos : SlAt encI 1 w3 ca (blkOf ca) 0 (canon (flN n inn)) := ((Rws.nil (Below.refl w1.heap.size w1)).add hB hown).slO (i := 0) rfl lenI hcl.symm
  obtain ⟨cb, hcb⟩ : ∃ cb, cb = blkOf ca := ⟨_, rfl⟩
  rw [← hcb] at hos
  have HB3 := Lib.hid hb3; have HX3 := Lib.hid hx3; have HCS := Lib.hid hos; have HBIG := Lib.hid hbig
  obtain ⟨x0, x1, x2, x3, x4⟩ := sys9 hx3
  clear hb3 hx3 hB hown hos hbig hcl hcb HCL HX1 HB1 hlB hzB
  have hr1 := Int.lt_tmod_of_pos x (show 0 < (el : Int) by omega)
  have hr2 := Int.tmod_lt_of_pos x (show 0 < (el : Int) by omega)
  have hnz : ¬ (el : Int) = 0 := by omega
  have hnz2 : ¬ el = 0 := by omega
  have hnn : ¬ (n : Int) = 0 := by omega
  have hnn2 : ¬ n = 0 := by omega
  go_upto_if 40 with fail
  obtain ⟨r, hrr⟩ : ∃ r, r = x.tmod (el : Int) := ⟨_, rfl⟩
  rw [← hrr] at hr1 hr2 ⊢
  clear hrr
  go_cut [7] from 39 (fun s7 wx => ∃ k : Nat, s7 = .int .i64 k ∧ k < el ∧ wx = w3)
  case first =>
    by_cases hneg : r < 0
    · go_wp2_with fail
      go_meet
      exact ⟨(r + (el : Int)).toNat, by rw [Int.toNat_of_nonneg (by omega)], by omega, rfl⟩
    · go_wp2_with fail
      go_meet
      exact ⟨r.toNat, by rw [Int.toNat_of_nonneg (by omega)], by omega, rfl⟩
  case rest =>
    obtain ⟨kn, rfl, hkn, rfl⟩ := hcut
    clear hr1 hr2
    have hq0 : Int.tmod ((z0 : Int) + 1) (n : Int) = (((z0 + 1) % n : Nat) : Int) := rfl
    obtain ⟨z1, hz1⟩ : ∃ z1, z1 = (z0 + 1) % n := ⟨_, rfl⟩
    rw [← hz1] at hq0
    have HZ1 := Lib.hid hz1
    have hzk : wrap64 ((z0 : Int) + 1) = (z0 : Int) + 1 := by unfold wrap64; omega
    clear hz1
    go_upto_region 11 with fail
    obtain ⟨w0, hw0⟩ : ∃ w0, w0 = wc.alloc (.cells #[.int .i64 (n : Int), .int .i64 lb, .int .i64 (z1 : Int), .slice (some ⟨b, off, none⟩) el c] 24) := ⟨_, rfl⟩
    obtain ⟨tb, htb⟩ : ∃ tb, tb = wc.heap.size := ⟨_, rfl⟩
    have hs0 : w0.heap.size = tb + 1 := by rw [hw0, htb]; simp
    have hbw : Below wc.heap.size wc w0 := by rw [hw0]; exact (Below.refl _ _).alloc (Nat.le_refl _) _
    have hby : w0.heap[tb]? = some (.cells #[.int .i64 (n : Int), .int .i64 lb, .int .i64 (z1 : Int), .slice (some ⟨b, off, none⟩) el c] 24 (0, 0)) := by rw [hw0, htb]; exact heap_alloc_new _ _
    have hbx : w0.heap[w.heap.size]? = some (.cells #[.int .i64 (n : Int), .int .i64 lb, .int .i64 (z0 : Int), .slice (some ⟨b, off, none⟩) el c] 24 (0, 0)) := (hbw.block _ x4).trans HX3.out
    rw [← hw0, ← htb]
    have hxt : w.heap.size < tb := by rw [htb]; exact x4
    have HBW0 := Lib.hid (HB3.out.trans (hbw.mono HB3.out.size))
    have hes0 := HS.out.below HBW0.out (Nat.le_refl _)
    have HTW : RowKit.Hid (tb = wc.heap.size) := Lib.hid htb
    have HBWW := Lib.hid hbw
    obtain ⟨ed, hed⟩ : ∃ ed, es[kn]? = some ed := ⟨_, List.getElem?_eq_getElem (by rw [← HEL.out]; exact hkn)⟩
    obtain ⟨e1, e2, e3⟩ := ed
    have hbt : b < tb := by rw [htb]; have h1 := (HS.out.below HB3.out (Nat.le_refl _)).lt (by rw [← HEL.out]; omega); exact h1
    clear hw0 htb hbw hq0 hzk x0 x1 x2 x3 x4
    have X1 := Lib.hid (hes0.e0 hed); have X2 := Lib.hid (hes0.e1 hed); have X3 := Lib.hid (hes0.e2 hed)
    have HED := Lib.hid hed
    have hfl := slAt_flat lenE hes0
    have HD1 : RowKit.Hid (∀ j u, ((es.drop kn).flatMap encE)[j]? = some u → w0.cell? ((⟨b, off + kn * 3, none⟩ : Addr).add j) = some u) := Lib.hid (slAt_flat lenE (xs := es.drop kn) (a := some ⟨b, off + kn * 3, none⟩) (b := b) (off := off + kn * 3) ⟨fun _ => rfl, fun _ => by omega, fun i y hy j u hu => by
      rw [List.getElem?_drop] at hy
      have := hes0.cell (kn + i) y hy j u hu
      rw [show off + kn * 3 + i * 3 + j = off + (kn + i) * 3 + j by omega]
      exact this⟩)
    have HD2 : RowKit.Hid (∀ j u, ((es.take kn).flatMap encE)[j]? = some u → w0.cell? ((⟨b, off, none⟩ : Addr).add j) = some u) := Lib.hid (slAt_flat lenE (xs := es.take kn) (a := some ⟨b, off, none⟩) (b := b) (off := off) ⟨fun _ => rfl, fun _ => by omega, fun i y hy j u hu => hes0.cell i y (by
      rw [List.getElem?_take] at hy
      split at hy
      · exact hy
      · cases hy) j u hu⟩)
    have HL1 : RowKit.Hid ((es.drop kn).length = el - kn) := Lib.hid (by rw [List.length_drop, HEL.out])
    have HL2 : RowKit.Hid ((es.take kn).length = kn) := Lib.hid (by rw [List.length_take, ← HEL.out]; omega)
    have hcl : ∀ W, Below tb w0 W → ∀ (q : Addr) u, q.block = b → w0.cell? q = some u → W.cell? q = some u := fun W h q u hq hu => by
      rw [h.cell (p := q) (by rw [hq]; exact hbt)]; exact hu
    have HK : RowKit.Hid (∀ W, Below tb w0 W → Below tb w0 W ∧ W.cell? ⟨w.heap.size, 3, none⟩ = some (.slice (some ⟨b, off, none⟩) el c) ∧ W.cell? ⟨b, off + kn * 3, none⟩ = some (.int .i64 e1) ∧ W.cell? ⟨b, off + kn * 3 + 1, none⟩ = some (.int .i64 e2) ∧ W.cell? ⟨b, off + kn * 3 + 2, none⟩ = some (.int .i64 e3)) := Lib.hid (fun W h => by
      refine ⟨h, ?_, hcl W h _ _ rfl X1.out, hcl W h _ _ rfl X2.out, hcl W h _ _ rfl X3.out⟩
      rw [h.cell (p := ⟨w.heap.size, 3, none⟩) hxt]
      simp [World.cell?, hbx])
    have HM : RowKit.Hid (∀ W, Below w0.heap.size w0 W → Below tb w0 W) := Lib.hid (fun W h => h.mono (by omega))
    have HM1 : RowKit.Hid (∀ out v W, GW (w0.drew.alloc (.cells #[.int .i64 e1, .int .i64 e2, .int .i64 e3] 35)) W out v → Below tb w0 W) := Lib.hid (fun _ _ _ h => ((Below.refl tb w0).drew.alloc (by show tb ≤ w0.heap.size; omega) _).trans (h.bel.mono (by simp; omega)))
    have ND1 : RowKit.Hid (∀ W, Below tb w0 W → ∀ j u, ((es.drop kn).flatMap encE)[j]? = some u → W.cell? ((⟨b, off + kn * 3, none⟩ : Addr).add j) = some u) := Lib.hid (fun W h j u hu => hcl W h _ _ (by unfold Addr.add; split <;> rfl) (HD1.out j u hu))
    have ND2 : RowKit.Hid (∀ W, Below tb w0 W → ∀ j u, ((es.take kn).flatMap encE)[j]? = some u → W.cell? ((⟨b, off, none⟩ : Addr).add j) = some u) := Lib.hid (fun W h j u hu => hcl W h _ _ (by unfold Addr.add; split <;> rfl) (HD2.out j u hu))
    have HT : RowKit.Hid (∀ W, Below (tb + 1) w0 W → W.cell? ⟨tb, 3, none⟩ = some (.slice (some ⟨b, off, none⟩) el c) ∧ W.frozen? ⟨tb, 3, none⟩ = false) := Lib.hid (fun W h => by
      have := h.block tb (by omega)
      rw [hby] at this
      exact ⟨by simp [World.cell?, this], by simp [World.frozen?, this]⟩)
    have HBE : RowKit.Hid (∀ (W w2 : World) (g m cap : Nat) (_ : Below w0.heap.size w0 w2) (_ : GW w2 W (es.drop kn ++ es.take kn ++ [(e1, e2, e3)]) (.slice (some ⟨g, 0, none⟩) m cap)), Below tb w0 (W.setCell ⟨tb, 3, none⟩ (.slice (some ⟨g, 0, none⟩) m cap)) ∧
        (W.setCell ⟨tb, 3, none⟩ (.slice (some ⟨g, 0, none⟩) m cap)).heap[tb]? = some (.cells #[.int .i64 (n : Int), .int .i64 lb, .int .i64 (z1 : Int), .slice (some ⟨g, 0, none⟩) m cap] 24 (0, 0)) ∧
        SlAt encE 3 (W.setCell ⟨tb, 3, none⟩ (.slice (some ⟨g, 0, none⟩) m cap)) (some ⟨g, 0, none⟩) g 0 (es.drop kn ++ es.take kn ++ [(e1, e2, e3)])) := Lib.hid (fun W w2 g m cap h2 hg => behind9 hs0 hby h2 hg (by rw [List.length_append, List.length_singleton]; omega))
    have HS0 := Lib.hid hs0
    have B0 := Lib.hid (HM.out _ ((Below.refl w0.heap.size w0).drew))
    have G0 := Lib.hid (GW.nil (w2 := w0) (wr := w0.drew) (Below.refl _ _).drew)
    have HCW := HCS
    have hcap := HCAP.out
    have c0 : ¬ c = 0 := by omega
    have c1 : ¬ c = kn := by omega
    have k1 : (0 : Int) ≤ (kn : Int) := by omega
    have k2 : (kn : Int) ≤ (el : Int) := by omega
    have k3 : (kn : Int) ≤ (c : Int) := by omega
    have k4 : (kn : Int) < (el : Int) := by omega
    have k5 : kn ≤ el := by omega
    have k6 : kn ≤ c := by omega
    have k7 : el ≤ c := hcap
    clear hs0 hbx hby hcl hes0 hfl hed hxt hbt HD1 HD2 X1 X2 X3 HX3 HCS
    refine wp_region_held_drew (S := fun w' => Below tb w0 w' ∧ w'.cell? ⟨w.heap.size, 3, none⟩ = some (.slice (some ⟨b, off, none⟩) el c) ∧ w'.cell? ⟨b, off + kn * 3, none⟩ = some (.int .i64 e1) ∧ w'.cell? ⟨b, off + kn * 3 + 1, none⟩ = some (.int .i64 e2) ∧ w'.cell? ⟨b, off + kn * 3 + 2, none⟩ = some (.int .i64 e3)) (by kernel_rfl) (HK.out _ B0.out) (fun hHeld => ?_)
    refine wpAnyH_take (i := 0) (v := ?_) rfl (by kernel_rfl) (by kernel_rfl) (by kernel_rfl) (fun _ _ _ h => h) (Or.inl ⟨by rfl, ?_⟩) (by assumption) ?_
    rotate_left
    · intro w hSw
      try dsimp only at hSw
      go_simp
      try with_reducible rfl
    try simp only [List.getElem_toArray, List.getElem_cons_zero, Act.put, List.setIfInBounds_toArray, List.set_cons_zero, List.set_cons_succ]
    refine wpAnyH_take (i := 1) (v := ?_) rfl (by kernel_rfl) (by kernel_rfl) (by kernel_rfl) (fun _ _ _ h => h) (Or.inl ⟨by rfl, ?_⟩) (by assumption) ?_
    rotate_left
    · intro w hSw
      try dsimp only at hSw
      go_simp
      try with_reducible rfl
    try simp only [List.getElem_toArray, List.getElem_cons_zero, List.getElem_cons_succ, Act.put, List.setIfInBounds_toArray, List.set_cons_zero, List.set_cons_succ]
    refine wpAnyH_take (i := 2) (v := ?_) rfl (by kernel_rfl) (by kernel_rfl) (by kernel_rfl) (fun _ _ _ h => h) (Or.inl ⟨by rfl, ?_⟩) (by assumption) ?_
    rotate_left
    · intro w hSw
      try dsimp only at hSw
      go_simp
      try with_reducible rfl
    try simp only [List.getElem_toArray, List.getElem_cons_zero, List.getElem_cons_succ, Act.put, List.setIfInBounds_toArray, List.set_cons_zero, List.set_cons_succ]
    refine wpAnyH_take (i := 3) (v := ?_) rfl (by kernel_rfl) (by kernel_rfl) (by kernel_rfl) (fun _ _ _ h => h) (Or.inl ⟨by rfl, ?_⟩) (by assumption) ?_
    rotate_left
    · intro w hSw
      try dsimp only at hSw
      go_simp
      try with_reducible rfl
    try simp only [List.getElem_toArray, List.getElem_cons_zero, List.getElem_cons_succ, Act.put, List.setIfInBounds_toArray, List.set_cons_zero, List.set_cons_succ]
    refine wpAnyH_take (i := 5) (v := ?_) rfl (by kernel_rfl) (by kernel_rfl) (by kernel_rfl) (fun _ _ _ h => h) (Or.inl ⟨by rfl, ?_⟩) (by assumption) ?_
    rotate_left
    · intro w hSw
      try dsimp only at hSw
      go_simp
      try with_reducible rfl
    try simp only [List.getElem_toArray, List.getElem_cons_zero, List.getElem_cons_succ, Act.put, List.setIfInBounds_toArray, List.set_cons_zero, List.set_cons_succ]
    refine wpAnyH_take (i := 6) (v := ?_) rfl (by kernel_rfl) (by kernel_rfl) (by kernel_rfl) (fun _ _ _ h => h) (Or.inl ⟨by rfl, ?_⟩) (by assumption) ?_
    rotate_left
    · intro w hSw
      try dsimp only at hSw
      go_simp
      try with_reducible rfl
    try simp only [List.getElem_toArray, List.getElem_cons_zero, List.getElem_cons_succ, Act.put, List.setIfInBounds_toArray, List.set_cons_zero, List.set_cons_succ]
    refine wpAnyH_take (i := 7) (v := ?_) rfl (by kernel_rfl) (by kernel_rfl) (by kernel_rfl) (fun _ _ _ h => h) (Or.inl ⟨by rfl, ?_⟩) (by assumption) ?_
    rotate_left
    · intro w hSw
      try dsimp only at hSw
      go_simp
      try with_reducible rfl
    try simp only [List.getElem_toArray, List.getElem_cons_zero, List.getElem_cons_succ, Act.put, List.setIfInBounds_toArray, List.set_cons_zero, List.set_cons_succ]
    refine wpAnyH_take (i := 8) (v := ?_) rfl (by kernel_rfl) (by kernel_rfl) (by kernel_rfl) (fun _ _ _ h => h) (Or.inl ⟨by rfl, ?_⟩) (by assumption) ?_
    rotate_left
    · intro w hSw
      try dsimp only at hSw
      go_simp
      try with_reducible rfl
    try simp only [List.getElem_toArray, List.getElem_cons_zero, List.getElem_cons_succ, Act.put, List.setIfInBounds_toArray, List.set_cons_zero, List.set_cons_succ]
    refine wpAnyH_take (i := 10) (v := ?_) rfl (by kernel_rfl) (by kernel_rfl) (by kernel_rfl) (fun _ _ _ h => h) (Or.inl ⟨by rfl, ?_⟩) (by assumption) ?_
    rotate_left
    · intro w hSw
      try dsimp only at hSw
      go_simp
      try with_reducible rfl
    try simp only [List.getElem_toArray, List.getElem_cons_zero, List.getElem_cons_succ, Act.put, List.setIfInBounds_toArray, List.set_cons_zero, List.set_cons_succ]
    refine wpAnyH_take (i := 11) (v := ?_) rfl (by kernel_rfl) (by kernel_rfl) (by kernel_rfl) (fun _ _ _ h => h) (Or.inl ⟨by rfl, ?_⟩) (by assumption) ?_
    rotate_left
    · intro w hSw
      try dsimp only at hSw
      go_simp
      try with_reducible rfl
    try simp only [List.getElem_toArray, List.getElem_cons_zero, List.getElem_cons_succ, Act.put, List.setIfInBounds_toArray, List.set_cons_zero, List.set_cons_succ]
    refine wpAnyH_take (i := 12) (v := ?_) rfl (by kernel_rfl) (by kernel_rfl) (by kernel_rfl) (fun _ _ _ h => h) (Or.inl ⟨by rfl, ?_⟩) (by assumption) ?_
    rotate_left
    · intro w hSw
      try dsimp only at hSw
      go_simp
      try with_reducible rfl
    try simp only [List.getElem_toArray, List.getElem_cons_zero, List.getElem_cons_succ, Act.put, List.setIfInBounds_toArray, List.set_cons_zero, List.set_cons_succ]
    refine wpAnyH_take (i := 13) (v := ?_) rfl (by kernel_rfl) (by kernel_rfl) (by kernel_rfl) (fun _ _ _ h => h) (Or.inl ⟨by rfl, ?_⟩) (by assumption) ?_
    rotate_left
    · intro w hSw
      try dsimp only at hSw
      go_simp
      try with_reducible rfl
    try simp only [List.getElem_toArray, List.getElem_cons_zero, List.getElem_cons_succ, Act.put, List.setIfInBounds_toArray, List.set_cons_zero, List.set_cons_succ]
    refine wpAnyH_take (i := 14) (v := ?_) rfl (by kernel_rfl) (by kernel_rfl) (by kernel_rfl) (fun _ _ _ h => h) (Or.inl ⟨by rfl, ?_⟩) (by assumption) ?_
    rotate_left
    · intro w hSw
      try dsimp only at hSw
      go_simp
      try with_reducible rfl
    try simp only [List.getElem_toArray, List.getElem_cons_zero, List.getElem_cons_succ, Act.put, List.setIfInBounds_toArray, List.set_cons_zero, List.set_cons_succ]
    refine wpAnyH_ready (rs := [4, 15]) (by kernel_rfl) (by simp) ?_
    refine AllReadyH.cons rfl (fun K hK => ?_) (AllReadyH.cons rfl (fun K hK => ?_) AllReadyH.nil)
    ·
      refine step_gw (by rfl) _ _ (by rfl) (by rfl) G0.out ⟨b, off + kn * 3, none⟩ (el - kn) (c - kn) (es.drop kn) (by rfl) HL1.out (ND1.out _ (B0.out)) (el - kn) (by simp) (by omega) (by omega) ?_
      intro g4 cap4 W4 hg4 hk4 hl4
      rw [List.nil_append] at hg4
      refine hK.out _ _ (HK.out _ (HM.out _ hg4.bel)) (fun hHeld => ?_)
      clear hK K
      try simp only [List.getElem_toArray, List.getElem_cons_zero, List.getElem_cons_succ, Act.put, List.setIfInBounds_toArray, List.set_cons_zero, List.set_cons_succ]
      refine wpAnyH_ready (rs := [9, 15]) (by kernel_rfl) (by simp) ?_
      refine AllReadyH.cons rfl (fun K hK => ?_) (AllReadyH.cons rfl (fun K hK => ?_) AllReadyH.nil)
      ·
        refine step_gw (by rfl) _ _ (by rfl) (by rfl) hg4 ⟨b, off, none⟩ kn c (es.take kn) (by rfl) HL2.out (ND2.out _ (HM.out _ hg4.bel)) el (by rw [HL1.out]; omega) (by omega) (by omega) ?_
        intro g9 cap9 W9 hg9 hk9 hl9
        refine hK.out _ _ (HK.out _ (HM.out _ hg9.bel)) (fun hHeld => ?_)
        clear hK K
        try simp only [List.getElem_toArray, List.getElem_cons_zero, List.getElem_cons_succ, Act.put, List.setIfInBounds_toArray, List.set_cons_zero, List.set_cons_succ]
        refine wpAnyH_ready (rs := [15]) (by kernel_rfl) (by simp) ?_
        refine AllReadyH.cons rfl (fun K hK => ?_) AllReadyH.nil
        go_simp
        refine hK.out _ _ (HK.out _ (HM.out _ (hg9.alloc _).bel)) (fun hHeld => ?_)
        clear hK K
        try simp only [List.getElem_toArray, List.getElem_cons_zero, List.getElem_cons_succ, Act.put, List.setIfInBounds_toArray, List.set_cons_zero, List.set_cons_succ]
        refine wpAnyH_ready (rs := [16]) (by kernel_rfl) (by simp) ?_
        refine AllReadyH.cons rfl (fun K hK => ?_) AllReadyH.nil
        refine step_gw (by rfl) _ _ (by rfl) (by rfl) (hg9.alloc _) ⟨W9.heap.size, 0, none⟩ 1 1 [(e1, e2, e3)] (by rfl) rfl (lit3 (x := (e1, e2, e3)) (heap_alloc_at _ _ _ rfl)) (el + 1) (by rw [List.length_append, HL1.out, HL2.out]; omega) (by omega) (by omega) ?_
        intro gT capT W hgT hkT hlT
        refine hK.out _ _ (HK.out _ (HM.out _ hgT.bel)) (fun hHeld => ?_)
        clear hK K
        try simp only [List.getElem_toArray, List.getElem_cons_zero, List.getElem_cons_succ, Act.put, List.setIfInBounds_toArray, List.set_cons_zero, List.set_cons_succ]
        refine wpAnyH_take (i := 17) (v := ?_) rfl (by kernel_rfl) (by kernel_rfl) (by kernel_rfl) (fun _ _ _ h => h) (Or.inl ⟨by rfl, ?_⟩) (by assumption) ?_
        rotate_left
        · intro w hSw
          try dsimp only at hSw
          go_simp
          try with_reducible rfl
        try simp only [List.getElem_toArray, List.getElem_cons_zero, List.getElem_cons_succ, Act.put, List.setIfInBounds_toArray, List.set_cons_zero, List.set_cons_succ]
        refine wpAnyH_ready (rs := [18]) (by kernel_rfl) (by simp) ?_
        refine AllReadyH.cons rfl (fun K hK => ?_) AllReadyH.nil
        obtain ⟨hcT, hfT⟩ := HT.out _ (hgT.bel.mono (by have := HS0.out; omega))
        have HGT := Lib.hid hgT
        clear hgT
        go_simp
        refine hK.out _ _ (HK.out _ ((HM.out _ HGT.out.bel).setCell (Nat.le_refl _) _)) (fun hHeld => ?_)
        clear hK K
        try simp only [List.getElem_toArray, List.getElem_cons_zero, List.getElem_cons_succ, Act.put, List.setIfInBounds_toArray, List.set_cons_zero, List.set_cons_succ]
        refine wpAnyH_done (by kernel_rfl) ?_ _
        obtain ⟨hbW, hyW, hsW⟩ := HBE.out _ _ _ _ _ (Below.refl _ _) HGT.out
        clear hcT hfT
        generalize World.setCell _ _ _ = w4 at hbW hyW hsW ⊢
        have hb4 := HBWW.out.trans (hbW.mono (by rw [HTW.out]; exact Nat.le_refl _))
        have hb5 := HB3.out.trans (hb4.mono HB3.out.size)
        obtain ⟨t0, t1, t2, t3, tl⟩ := sys9 hyW
        have hlen : (es.drop kn ++ es.take kn ++ [(e1, e2, e3)]).length = el + 1 := by rw [List.length_append, List.length_append, HL1.out, HL2.out, List.length_singleton]; omega
        have hTe : (⟨(n : Int), lb, (z1 : Int), es.drop kn ++ es.take kn ++ [(e1, e2, e3)]⟩ : Lts) = turnS ⟨(n : Int), lb, (z0 : Int), es⟩ kn := by
          unfold turnS turnE
          rw [HED.out, HZ1.out]
          rfl
        have hTR : Lts.Right ⟨(n : Int), lb, (z1 : Int), es.drop kn ++ es.take kn ++ [(e1, e2, e3)]⟩ := by
          rw [hTe]
          exact turn_right HR.out (by show kn < es.length; rw [← HEL.out]; omega) (by show (0 : Int) < (n : Int); omega) (by show es.length ≤ 600; rw [← HEL.out]; omega)
        have hct := strClasses_any (c := capT) (n := n) hTR rfl (HG.out.below hb5) hsW
        simp only at hct
        rw [hlen] at hct
        have HCT := Lib.hid hct; have HTE := Lib.hid hTe; have HB5 := Lib.hid hb5
        have HC4 := Lib.hid (HCW.out.below hb4 (Nat.le_refl _))
        clear hbW hyW hsW hb4 hb5 hlen hTe hTR hct hkT hlT
        go_wp2_with fail
        refine HCT.out.mono ?_
        unfold StrClasses
        rintro e w5 ⟨inm, da, dc, hbig, rfl, hown, hB⟩
        have hcl : (canon (flN n inm)).length = n := by rw [canon_len, flN_len]
        have hos : SlAt encI 1 w5 da (blkOf da) 0 (canon (flN n inm)) := ((Rws.nil (Below.refl w4.heap.size w4)).add hB hown).slO (i := 0) rfl lenI hcl.symm
        rw [HTE.out] at hbig
        have HEQ : RowKit.Hid (canon (flN n inn) = canon (flN n inm)) := Lib.hid (turn_canon HBIG.out hbig)
        have HD5 := Lib.hid hos; have HC5 := Lib.hid (HC4.out.below hB (Nat.le_refl _)); have HB6 := Lib.hid (HB5.out.trans (hB.mono HB5.out.size))
        clear hbig hown hB hcl hos HCT t0 t1 t2 t3 tl
        go_wp2_with fail
        refine (ALV.out _ HB6.out).mono ?_
        rintro e w6 ⟨rfl, hB7, hB8⟩
        have hsi := sameInts_any (c1 := cc) (c2 := dc) (HC5.out.below hB8 (Nat.le_refl _)) (HD5.out.below hB8 (Nat.le_refl _)) (by rw [canon_len, flN_len]; omega) (by rw [canon_len, flN_len]; omega)
        rw [canon_len, canon_len, flN_len, flN_len, show decide (canon (flN n inn) = canon (flN n inm)) = true by simp [HEQ.out]] at hsi
        have HSI := Lib.hid hsi; have HB7 := Lib.hid hB7
        clear hsi hB7 hB8
        go_wp2_with fail
        refine HSI.out.mono ?_
        rintro e w7 ⟨rfl, u, rfl⟩
        go_wp2
        go_ret
        exact ⟨rfl, bdrew HB7.out⟩
      ·
        go_simp
        refine hK.out _ _ (HK.out _ (HM.out _ (hg4.alloc _).bel)) (fun hHeld => ?_)
        clear hK K
        try simp only [List.getElem_toArray, List.getElem_cons_zero, List.getElem_cons_succ, Act.put, List.setIfInBounds_toArray, List.set_cons_zero, List.set_cons_succ]
        refine wpAnyH_ready (rs := [9]) (by kernel_rfl) (by simp) ?_
        refine AllReadyH.cons rfl (fun K hK => ?_) AllReadyH.nil
        refine step_gw (by rfl) _ _ (by rfl) (by rfl) (hg4.alloc _) ⟨b, off, none⟩ kn c (es.take kn) (by rfl) HL2.out (ND2.out _ (HM.out _ (hg4.alloc _).bel)) el (by rw [HL1.out]; omega) (by omega) (by omega) ?_
        intro g9 cap9 W9 hg9 hk9 hl9
        refine hK.out _ _ (HK.out _ (HM.out _ hg9.bel)) (fun hHeld => ?_)
        clear hK K
        try simp only [List.getElem_toArray, List.getElem_cons_zero, List.getElem_cons_succ, Act.put, List.setIfInBounds_toArray, List.set_cons_zero, List.set_cons_succ]
        refine wpAnyH_ready (rs := [16]) (by kernel_rfl) (by simp) ?_
        refine AllReadyH.cons rfl (fun K hK => ?_) AllReadyH.nil
        have hne : (Value.slice (some ⟨g4, 0, none⟩) (el - kn) cap4).ownBlock ≠ some W4.heap.size := fun e => by have h1 := hg4.blk; have h2 : g4 = W4.heap.size := Option.some.inj e; omega
        refine step_gw (by rfl) _ _ (by rfl) (by rfl) hg9 ⟨W4.heap.size, 0, none⟩ 1 1 [(e1, e2, e3)] (by rfl) rfl (lit3 (x := (e1, e2, e3)) ((hk9 _ (by simp) hne).trans (heap_alloc_at _ _ _ rfl))) (el + 1) (by rw [List.length_append, HL1.out, HL2.out]; omega) (by omega) (by omega) ?_
        intro gT capT W hgT hkT hlT
        refine hK.out _ _ (HK.out _ (HM.out _ hgT.bel)) (fun hHeld => ?_)
        clear hK K
        try simp only [List.getElem_toArray, List.getElem_cons_zero, List.getElem_cons_succ, Act.put, List.setIfInBounds_toArray, List.set_cons_zero, List.set_cons_succ]
        refine wpAnyH_take (i := 17) (v := ?_) rfl (by kernel_rfl) (by kernel_rfl) (by kernel_rfl) (fun _ _ _ h => h) (Or.inl ⟨by rfl, ?_⟩) (by assumption) ?_
        rotate_left
        · intro w hSw
          try dsimp only at hSw
          go_simp
          try with_reducible rfl
        try simp only [List.getElem_toArray, List.getElem_cons_zero, List.getElem_cons_succ, Act.put, List.setIfInBounds_toArray, List.set_cons_zero, List.set_cons_succ]
        refine wpAnyH_ready (rs := [18]) (by kernel_rfl) (by simp) ?_
        refine AllReadyH.cons rfl (fun K hK => ?_) AllReadyH.nil
        obtain ⟨hcT, hfT⟩ := HT.out _ (hgT.bel.mono (by have := HS0.out; omega))
        have HGT := Lib.hid hgT
        clear hgT
        go_simp
        refine hK.out _ _ (HK.out _ ((HM.out _ HGT.out.bel).setCell (Nat.le_refl _) _)) (fun hHeld => ?_)
        clear hK K
        try simp only [List.getElem_toArray, List.getElem_cons_zero, List.getElem_cons_succ, Act.put, List.setIfInBounds_toArray, List.set_cons_zero, List.set_cons_succ]
        refine wpAnyH_done (by kernel_rfl) ?_ _
        obtain ⟨hbW, hyW, hsW⟩ := HBE.out _ _ _ _ _ (Below.refl _ _) HGT.out
        clear hcT hfT
        generalize World.setCell _ _ _ = w4 at hbW hyW hsW ⊢
        have hb4 := HBWW.out.trans (hbW.mono (by rw [HTW.out]; exact Nat.le_refl _))
        have hb5 := HB3.out.trans (hb4.mono HB3.out.size)
        obtain ⟨t0, t1, t2, t3, tl⟩ := sys9 hyW
        have hlen : (es.drop kn ++ es.take kn ++ [(e1, e2, e3)]).length = el + 1 := by rw [List.length_append, List.length_append, HL1.out, HL2.out, List.length_singleton]; omega
        have hTe : (⟨(n : Int), lb, (z1 : Int), es.drop kn ++ es.take kn ++ [(e1, e2, e3)]⟩ : Lts) = turnS ⟨(n : Int), lb, (z0 : Int), es⟩ kn := by
          unfold turnS turnE
          rw [HED.out, HZ1.out]
          rfl
        have hTR : Lts.Right ⟨(n : Int), lb, (z1 : Int), es.drop kn ++ es.take kn ++ [(e1, e2, e3)]⟩ := by
          rw [hTe]
          exact turn_right HR.out (by show kn < es.length; rw [← HEL.out]; omega) (by show (0 : Int) < (n : Int); omega) (by show es.length ≤ 600; rw [← HEL.out]; omega)
        have hct := strClasses_any (c := capT) (n := n) hTR rfl (HG.out.below hb5) hsW
        simp only at hct
        rw [hlen] at hct
        have HCT := Lib.hid hct; have HTE := Lib.hid hTe; have HB5 := Lib.hid hb5
        have HC4 := Lib.hid (HCW.out.below hb4 (Nat.le_refl _))
        clear hbW hyW hsW hb4 hb5 hlen hTe hTR hct hkT hlT
        go_wp2_with fail
        refine HCT.out.mono ?_
        unfold StrClasses
        rintro e w5 ⟨inm, da, dc, hbig, rfl, hown, hB⟩
        have hcl : (canon (flN n inm)).length = n := by rw [canon_len, flN_len]
        have hos : SlAt encI 1 w5 da (blkOf da) 0 (canon (flN n inm)) := ((Rws.nil (Below.refl w4.heap.size w4)).add hB hown).slO (i := 0) rfl lenI hcl.symm
        rw [HTE.out] at hbig
        have HEQ : RowKit.Hid (canon (flN n inn) = canon (flN n inm)) := Lib.hid (turn_canon HBIG.out hbig)
        have HD5 := Lib.hid hos; have HC5 := Lib.hid (HC4.out.below hB (Nat.le_refl _)); have HB6 := Lib.hid (HB5.out.trans (hB.mono HB5.out.size))
        clear hbig hown hB hcl hos HCT t0 t1 t2 t3 tl
        go_wp2_with fail
        refine (ALV.out _ HB6.out).mono ?_
        rintro e w6 ⟨rfl, hB7, hB8⟩
        have hsi := sameInts_any (c1 := cc) (c2 := dc) (HC5.out.below hB8 (Nat.le_refl _)) (HD5.out.below hB8 (Nat.le_refl _)) (by rw [canon_len, flN_len]; omega) (by rw [canon_len, flN_len]; omega)
        rw [canon_len, canon_len, flN_len, flN_len, show decide (canon (flN n inn) = canon (flN n inm)) = true by simp [HEQ.out]] at hsi
        have HSI := Lib.hid hsi; have HB7 := Lib.hid hB7
        clear hsi hB7 hB8
        go_wp2_with fail
        refine HSI.out.mono ?_
        rintro e w7 ⟨rfl, u, rfl⟩
        go_wp2
        go_ret
        exact ⟨rfl, bdrew HB7.out⟩
    ·
      go_simp
      have hg1 : GW (w0.drew.alloc (.cells #[.int .i64 e1, .int .i64 e2, .int .i64 e3] 35)) (w0.drew.alloc (.cells #[.int .i64 e1, .int .i64 e2, .int .i64 e3] 35)) [] (.slice none 0 0) := GW.nil (Below.refl _ _)
      have hlit := heap_alloc_at w0.drew (.cells #[.int .i64 e1, .int .i64 e2, .int .i64 e3] 35) w0.heap.size rfl
      have G1 := Lib.hid hg1; have HLIT := Lib.hid hlit
      clear hg1 hlit
      refine hK.out _ _ (HK.out _ (HM1.out _ _ _ G1.out)) (fun hHeld => ?_)
      clear hK K
      try simp only [List.getElem_toArray, List.getElem_cons_zero, List.getElem_cons_succ, Act.put, List.setIfInBounds_toArray, List.set_cons_zero, List.set_cons_succ]
      refine wpAnyH_ready (rs := [4]) (by kernel_rfl) (by simp) ?_
      refine AllReadyH.cons rfl (fun K hK => ?_) AllReadyH.nil
      refine step_gw (by rfl) _ _ (by rfl) (by rfl) G1.out ⟨b, off + kn * 3, none⟩ (el - kn) (c - kn) (es.drop kn) (by rfl) HL1.out (ND1.out _ (HM1.out _ _ _ G1.out)) (el - kn) (by simp) (by omega) (by omega) ?_
      intro g4 cap4 W4 hg4 hk4 hl4
      rw [List.nil_append] at hg4
      refine hK.out _ _ (HK.out _ (HM1.out _ _ _ hg4)) (fun hHeld => ?_)
      clear hK K
      try simp only [List.getElem_toArray, List.getElem_cons_zero, List.getElem_cons_succ, Act.put, List.setIfInBounds_toArray, List.set_cons_zero, List.set_cons_succ]
      refine wpAnyH_ready (rs := [9]) (by kernel_rfl) (by simp) ?_
      refine AllReadyH.cons rfl (fun K hK => ?_) AllReadyH.nil
      refine step_gw (by rfl) _ _ (by rfl) (by rfl) hg4 ⟨b, off, none⟩ kn c (es.take kn) (by rfl) HL2.out (ND2.out _ (HM1.out _ _ _ hg4)) el (by rw [HL1.out]; omega) (by omega) (by omega) ?_
      intro g9 cap9 W9 hg9 hk9 hl9
      refine hK.out _ _ (HK.out _ (HM1.out _ _ _ hg9)) (fun hHeld => ?_)
      clear hK K
      try simp only [List.getElem_toArray, List.getElem_cons_zero, List.getElem_cons_succ, Act.put, List.setIfInBounds_toArray, List.set_cons_zero, List.set_cons_succ]
      refine wpAnyH_ready (rs := [16]) (by kernel_rfl) (by simp) ?_
      refine AllReadyH.cons rfl (fun K hK => ?_) AllReadyH.nil
      refine step_gw (by rfl) _ _ (by rfl) (by rfl) hg9 ⟨w0.heap.size, 0, none⟩ 1 1 [(e1, e2, e3)] (by rfl) rfl (lit3 (x := (e1, e2, e3)) ((hg9.bel.block _ (Array.getElem?_eq_some_iff.1 HLIT.out).1).trans HLIT.out)) (el + 1) (by rw [List.length_append, HL1.out, HL2.out]; omega) (by omega) (by omega) ?_
      intro gT capT W hgT hkT hlT
      refine hK.out _ _ (HK.out _ (HM1.out _ _ _ hgT)) (fun hHeld => ?_)
      clear hK K
      try simp only [List.getElem_toArray, List.getElem_cons_zero, List.getElem_cons_succ, Act.put, List.setIfInBounds_toArray, List.set_cons_zero, List.set_cons_succ]
      refine wpAnyH_take (i := 17) (v := ?_) rfl (by kernel_rfl) (by kernel_rfl) (by kernel_rfl) (fun _ _ _ h => h) (Or.inl ⟨by rfl, ?_⟩) (by assumption) ?_
      rotate_left
      · intro w hSw
        try dsimp only at hSw
        go_simp
        try with_reducible rfl
      try simp only [List.getElem_toArray, List.getElem_cons_zero, List.getElem_cons_succ, Act.put, List.setIfInBounds_toArray, List.set_cons_zero, List.set_cons_succ]
      refine wpAnyH_ready (rs := [18]) (by kernel_rfl) (by simp) ?_
      refine AllReadyH.cons rfl (fun K hK => ?_) AllReadyH.nil
      obtain ⟨hcT, hfT⟩ := HT.out _ (((Below.refl (tb + 1) w0).drew.alloc (by have := HS0.out; show tb + 1 ≤ w0.heap.size; omega) _).trans (hgT.bel.mono (by have := HS0.out; simp; omega)))
      have HGT := Lib.hid hgT
      clear hgT
      go_simp
      refine hK.out _ _ (HK.out _ ((HM1.out _ _ _ HGT.out).setCell (Nat.le_refl _) _)) (fun hHeld => ?_)
      clear hK K
      try simp only [List.getElem_toArray, List.getElem_cons_zero, List.getElem_cons_succ, Act.put, List.setIfInBounds_toArray, List.set_cons_zero, List.set_cons_succ]
      refine wpAnyH_done (by kernel_rfl) ?_ _
      obtain ⟨hbW, hyW, hsW⟩ := HBE.out _ _ _ _ _ ((Below.refl _ _).drew.alloc (Nat.le_refl _) _) HGT.out
      clear hcT hfT
      generalize World.setCell _ _ _ = w4 at hbW hyW hsW ⊢
      have hb4 := HBWW.out.trans (hbW.mono (by rw [HTW.out]; exact Nat.le_refl _))
      have hb5 := HB3.out.trans (hb4.mono HB3.out.size)
      obtain ⟨t0, t1, t2, t3, tl⟩ := sys9 hyW
      have hlen : (es.drop kn ++ es.take kn ++ [(e1, e2, e3)]).length = el + 1 := by rw [List.length_append, List.length_append, HL1.out, HL2.out, List.length_singleton]; omega
      have hTe : (⟨(n : Int), lb, (z1 : Int), es.drop kn ++ es.take kn ++ [(e1, e2, e3)]⟩ : Lts) = turnS ⟨(n : Int), lb, (z0 : Int), es⟩ kn := by
        unfold turnS turnE
        rw [HED.out, HZ1.out]
        rfl
      have hTR : Lts.Right ⟨(n : Int), lb, (z1 : Int), es.drop kn ++ es.take kn ++ [(e1, e2, e3)]⟩ := by
        rw [hTe]
        exact turn_right HR.out (by show kn < es.length; rw [← HEL.out]; omega) (by show (0 : Int) < (n : Int); omega) (by show es.length ≤ 600; rw [← HEL.out]; omega)
      have hct := strClasses_any (c := capT) (n := n) hTR rfl (HG.out.below hb5) hsW
      simp only at hct
      rw [hlen] at hct
      have HCT := Lib.hid hct; have HTE := Lib.hid hTe; have HB5 := Lib.hid hb5
      have HC4 := Lib.hid (HCW.out.below hb4 (Nat.le_refl _))
      clear hbW hyW hsW hb4 hb5 hlen hTe hTR hct hkT hlT
      go_wp2_with fail
      refine HCT.out.mono ?_
      unfold StrClasses
      rintro e w5 ⟨inm, da, dc, hbig, rfl, hown, hB⟩
      have hcl : (canon (flN n inm)).length = n := by rw [canon_len, flN_len]
      have hos : SlAt encI 1 w5 da (blkOf da) 0 (canon (flN n inm)) := ((Rws.nil (Below.refl w4.heap.size w4)).add hB hown).slO (i := 0) rfl lenI hcl.symm
      rw [HTE.out] at hbig
      have HEQ : RowKit.Hid (canon (flN n inn) = canon (flN n inm)) := Lib.hid (turn_canon HBIG.out hbig)
      have HD5 := Lib.hid hos; have HC5 := Lib.hid (HC4.out.below hB (Nat.le_refl _)); have HB6 := Lib.hid (HB5.out.trans (hB.mono HB5.out.size))
      clear hbig hown hB hcl hos HCT t0 t1 t2 t3 tl
      go_wp2_with fail
      refine (ALV.out _ HB6.out).mono ?_
      rintro e w6 ⟨rfl, hB7, hB8⟩
      have hsi := sameInts_any (c1 := cc) (c2 := dc) (HC5.out.below hB8 (Nat.le_refl _)) (HD5.out.below hB8 (Nat.le_refl _)) (by rw [canon_len, flN_len]; omega) (by rw [canon_len, flN_len]; omega)
      rw [canon_len, canon_len, flN_len, flN_len, show decide (canon (flN n inn) = canon (flN n inm)) = true by simp [HEQ.out]] at hsi
      have HSI := Lib.hid hsi; have HB7 := Lib.hid hB7
      clear hsi hB7 hB8
      go_wp2_with fail
      refine HSI.out.mono ?_
      rintro e w7 ⟨rfl, u, rfl⟩
      go_wp2
      go_ret
      exact ⟨rfl, bdrew HB7.out⟩
end Go.Proofs.YtfakdgljilmpkaaGreatDoor
