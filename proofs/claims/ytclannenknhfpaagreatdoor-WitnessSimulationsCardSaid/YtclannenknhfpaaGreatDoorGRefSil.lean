/-
  semblanceref13.Silent: of each state whom silent steps lead to, as rows of bools.
  Rows of bools that are made one by one, and marked.
  witness: the closure that notes a step; plain: what a state does by classes.
-/
import Derived.Test.YtclannenknhfpaaGreatDoorGRefReach
import Derived.Test.YtclannenknhfpaaGreatDoorRefOut
import Derived.Test.YtclannenknhfpaaGreatDoorGKeyS
import Derived.Test.YtclannenknhfpaaGreatDoorGGraphB
import Derived.Test.YtclannenknhfpaaGreatDoorGPl10
import Derived.Deep.RegionHeld3
import Derived.Deep.QuietTactic
import Derived.BigQuiet
namespace Go.Proofs.YtclannenknhfpaaGreatDoor
open Go.RowKit Pl

theorem rowBBS : IsRow Tryz.prog 82 65 1 24 (.slice none 0 0) := isRow_of Tryz.underlying82 (by kernel_rfl) rfl (by decide)

/-- Rows of bools in memory, of the first states. -/
structure LsB (B : Nat) (w0 wr : World) (n : Nat) (G : Nat → Nat → Bool) (v : Value) (vs : List Value) : Prop where
  bel : Below B w0 wr
  own : wr.ownsRow B 65 1 v vs.length (vs.flatMap encV)
  rows : ∀ (j : Nat) (x : Value), vs[j]? = some x → ∃ b, x = .slice (some ⟨b, 0, none⟩) n n ∧ B ≤ b ∧ wr.rowIs b 4 n (fun q => .bool (G j q))
section
variable {B : Nat} {w0 wr w' wb : World} {n : Nat} {G : Nat → Nat → Bool} {v v' x : Value} {vs : List Value}
theorem LsB.call (h : LsB B w0 wr n G v vs) (hB0 : B ≤ wr.heap.size) (hB : Below wr.heap.size wr w') : LsB B w0 w' n G v vs :=
  ⟨h.bel.trans (hB.mono hB0), own_below h.own hB, fun j x hx => by
    obtain ⟨b, h1, h2, h3⟩ := h.rows j x hx
    exact ⟨b, h1, h2, h3.of_block (hB.block _ h3.lt)⟩⟩
theorem LsB.push {b : Nat} (h : LsB B w0 wr n G v vs) (hB0 : B ≤ wr.heap.size) (hbb : B ≤ b) (hx : wr.rowIs b 4 n (fun q => .bool (G vs.length q)))
    (hown : w'.ownsRow B 65 1 v' (vs.length + 1) (vs.flatMap encV ++ [.slice (some ⟨b, 0, none⟩) n n])) (hg : wr.grownBy w' v.ownBlock) : LsB B w0 w' n G v' (vs ++ [.slice (some ⟨b, 0, none⟩) n n]) := by
  have hrow : ∀ {c : Nat} {f : Nat → Value}, wr.rowIs c 4 n f → w'.rowIs c 4 n f := fun {c f} hc => by
    refine hc.of_block (hg.block c hc.lt (fun e => ?_))
    obtain ⟨cs, h1, _⟩ := hc
    rcases h.own.2 with ⟨h2, _⟩ | ⟨gg, cap, cur, hv, _, hgg, _⟩
    · rw [h2] at e; cases e
    · rw [hv] at e; simp only [Value.ownBlock, Option.some.injEq] at e; subst e; rw [hgg] at h1; simp at h1
  refine ⟨h.bel.grown hg hB0 (fun k e => (h.own.lt k e).1), ?_, fun j y hy => ?_⟩
  · rw [List.flatMap_append, List.length_append]; exact hown
  · rcases Nat.lt_or_ge j vs.length with hj | hj
    · rw [List.getElem?_append_left hj] at hy
      obtain ⟨c, h1, h2, h3⟩ := h.rows j y hy
      exact ⟨c, h1, h2, hrow h3⟩
    · have hq2 : j = vs.length := by have := (List.getElem?_eq_some_iff.1 hy).1; simp at this; omega
      subst hq2
      simp at hy
      subst hy
      exact ⟨b, rfl, hbb, hrow hx⟩
end
/-- Rows of bools, as they read. -/
structure BoolsIn (w : World) (lb n : Nat) (G : Nat → Nat → Bool) : Prop where
  at_ : ∀ p, p < n → ∃ b, w.cell? ⟨lb, p, none⟩ = some (.slice (some ⟨b, 0, none⟩) n n) ∧ w.rowIs b 4 n (fun q => .bool (G p q))
  lt : 0 < n → lb < w.heap.size
theorem BoolsIn.below {w w' : World} {lb n : Nat} {G : Nat → Nat → Bool} (h : BoolsIn w lb n G) (hB : Below w.heap.size w w') : BoolsIn w' lb n G :=
  ⟨fun p hp => by
    obtain ⟨b, h1, h2⟩ := h.at_ p hp
    exact ⟨b, by rw [hB.cell (p := ⟨lb, p, none⟩) (h.lt (by omega))]; exact h1, h2.of_block (hB.block _ h2.lt)⟩, fun hn => Nat.lt_of_lt_of_le (h.lt hn) hB.size⟩
theorem tauOf_st {s : Lts} {q : Int} : (tauOf s q).st = s.st := rfl

/-- What Silent tells of a right system. -/
noncomputable def silG (s : Lts) (p q : Nat) : Bool := decide ((q : Int) ∈ reachL (tauOf s.norm (p : Int)))

set_option maxRecDepth 100000 in
set_option maxHeartbeats 4000000 in
theorem refSilent_any {s : Lts} {n : Nat} (hr : s.Right) (hn : s.st = (n : Int)) {a : Option Addr} {b off c : Nat} {w : World} (hS : SlAt encE 3 w a b off s.es) (hc : s.es.length ≤ c) (hcm : c ≤ maxLen) :
    Calls Tryz.prog 84 #[.agg #[.int .i64 s.st, .int .i64 s.lb, .int .i64 s.s0, .slice a s.es.length c]] w fun e w' => ∃ la lb lc, e = .returned (.slice la n lc) ∧ (0 < n → la = some ⟨lb, 0, none⟩) ∧ BoolsIn w' lb n (silG s) ∧ Below w.heap.size w w' := by
  have hst := hr.st0
  have hn1 : n ≤ 1000 := by omega
  have hB0 := (Below.refl w.heap.size w).alloc (Nat.le_refl _) (Obj.cells #[.int .i64 s.st, .int .i64 s.lb, .int .i64 s.s0, .slice a s.es.length c] 24)
  have hbx := heap_alloc_new w (Obj.cells #[.int .i64 s.st, .int .i64 s.lb, .int .i64 s.s0, .slice a s.es.length c] 24)
  have HO := Lib.hid (refOut_any hr (hS.below hB0 (Nat.le_refl _)) hc hcm)
  obtain ⟨el, hel⟩ : ∃ el, el = s.es.length := ⟨_, rfl⟩
  rw [hn, ← hel] at HO hB0 hbx
  rw [hn, ← hel]
  have HB0 := Lib.hid hB0; have HBX := Lib.hid hbx; have HR := Lib.hid hr; have HN := Lib.hid hn
  clear hB0 hbx hr hn hS hc hcm hst hel
  go_enter Tryz.func84, Tryz.ntmps84
  go_wp2_with fail
  refine HO.out.mono ?_
  rintro e w2 ⟨ob, n', base, hn', rfl, hrows, hob, hB2⟩
  obtain rfl : n = n' := by have := HN.out; omega
  have hx2 := (hB2.block w.heap.size (by simp)).trans HBX.out
  have HX2 := Lib.hid hx2; have HB2 := Lib.hid (HB0.out.trans (hB2.mono (by simp))); have HRW := Lib.hid (StepsIn.of hrows)
  have hup : LsB w2.heap.size w2 w2 n (silG s) (.slice none 0 0) [] := ⟨Below.refl _ _, ⟨by simp, .inl ⟨rfl, rfl⟩⟩, by simp⟩
  have HUP := Lib.hid hup
  clear hrows hob hB2 hx2 hn' hup HO HB0 HBX
  go_wp2_with fail
  go_loopw [4, 5] (fun v4 v5 wr => ∃ (k : Nat) (vs : List Value), v5 = .int .i64 k ∧ k ≤ n ∧ vs.length = k ∧ LsB w2.heap.size w2 wr n (silG s) v4 vs) (fun _ v5 _ => n - (intOf v5).toNat)
  case atStart => exact ⟨0, [], rfl, Nat.zero_le _, rfl, HUP.out⟩
  case round =>
    obtain ⟨k, vs, rfl, hk, hvl, hup⟩ := hrel
    have HU := Lib.hid hup; have HVL := Lib.hid hvl
    have hsz := hup.bel.size
    have hxr := (hup.bel.block w.heap.size (Array.getElem?_eq_some_iff.1 HX2.out).1).trans HX2.out
    have x0 : wr.cell? ⟨w.heap.size, 0, none⟩ = some (.int .i64 n) := by simp [World.cell?, hxr]
    have xl := (Array.getElem?_eq_some_iff.1 hxr).1
    clear hup hvl HUP hxr
    by_cases hlt : k < n
    · have hkI : (k : Int) < (n : Int) := by omega
      have hfr := refFrom_any (s := s.norm) (c := n) HR.out.norm (srt_nf stoE _) (n := n) (q := k) HN.out hlt (HRW.out.below HU.out.bel)
      have HFR := Lib.hid hfr
      clear hfr
      go_wp2_with fail
      refine HFR.out.mono ?_
      rintro e w5 ⟨rb, rfl, hrow, hrb, hB5⟩
      have hu5 := HU.out.call hsz hB5
      have hs5 := hB5.size
      have HU5 := Lib.hid hu5; have HRO := Lib.hid hrow
      have hrbl := hrow.lt
      clear hu5 hrow hB5 HU HFR x0 xl
      go_wp2_with (at_builtin; refine wpList_lies rfl _ _ 82 rfl rowBBS (base := w2.heap.size) (by simp; omega) rfl (own_below HU5.out.own ((Below.refl w5.heap.size w5).alloc (Nat.le_refl _) _)) ⟨w5.heap.size, 0, none⟩ 1 1 [.slice (some ⟨rb, 0, none⟩) n n] rfl rfl (cells1 (by simp [go_sem])) (by simp [Value.oneCell']) (by omega) (by rw [HVL.out]; omega) (by unfold maxLen; rw [HVL.out]; omega) _ rfl ?_; intro g cap w6 hown6 hg6 _ _)
      have hba := (Below.refl w5.heap.size w5).alloc (Nat.le_refl _) (.cells #[.slice (some ⟨rb, 0, none⟩) n n] 65)
      have hnx := (HU5.out.call (by omega) hba).push (v' := .slice (some ⟨g, 0, none⟩) (vs.length + 1) cap) (b := rb) (by simp; omega) (by omega) (by rw [HVL.out]; exact HRO.out.of_block (hba.block _ hrbl)) hown6 hg6
      have HNX := Lib.hid hnx
      clear hnx hown6 hg6 HU5 hba
      go_roundw
      case rel => exact ⟨k + 1, vs ++ [.slice (some ⟨rb, 0, none⟩) n n], by go_num, by omega, by simp [HVL.out], HNX.out⟩
      case measure => simp [intOf]; omega
    · obtain rfl : n = k := by omega
      obtain ⟨va, vc, vb, rfl, _, _, hvs, _⟩ := slAt_own lenV HU.out.own
      have hfin : (0 < n → va = some ⟨vb, 0, none⟩) ∧ BoolsIn wr vb n (silG s) := by
        have hl := HVL.out
        refine ⟨fun h => hvs.ad (by omega), fun p hp => ?_, fun h => hvs.lt (by omega)⟩
        obtain ⟨x, hx⟩ := getElem?_of_lt (xs := vs) (i := p) (by omega)
        obtain ⟨b2, rfl, _, h3⟩ := HU.out.rows p x hx
        have := hvs.cv hx
        simp only [Nat.zero_add] at this
        exact ⟨b2, this, h3⟩
      have HFN := Lib.hid hfin
      rw [HVL.out]
      clear hvs hfin
      go_wp2_with fail
      go_ret
      exact ⟨va, vb, vc, rfl, HFN.out.1, HFN.out.2, HB2.out.trans (HU.out.bel.mono HB2.out.size)⟩
end Go.Proofs.YtclannenknhfpaaGreatDoor

namespace Go.Proofs.YtclannenknhfpaaGreatDoor
open Go.RowKit Pl

/-- Rows of bools, each a block of its own. -/
structure LsM (B : Nat) (w0 wr : World) (n : Nat) (G : Nat → Nat → Bool) (v : Value) (bk : Nat → Nat) (m : Nat) : Prop where
  bel : Below B w0 wr
  own : wr.ownsRow B 65 1 v m ((List.range m).map (fun j => .slice (some ⟨bk j, 0, none⟩) n n))
  rows : ∀ j, j < m → B ≤ bk j ∧ wr.rowIs (bk j) 4 n (fun q => .bool (G j q))
  ap : ∀ i j, i < m → j < m → bk i = bk j → i = j
section
variable {B : Nat} {w0 wr w' : World} {n m : Nat} {G : Nat → Nat → Bool} {v v' : Value} {bk : Nat → Nat}
theorem LsM.start (B : Nat) (w : World) (n : Nat) (G : Nat → Nat → Bool) (bk : Nat → Nat) : LsM B w w n G (.slice none 0 0) bk 0 :=
  ⟨Below.refl _ _, ⟨by simp, .inl ⟨rfl, rfl⟩⟩, fun j hj => by omega, fun i j hi _ _ => by omega⟩
theorem LsM.call (h : LsM B w0 wr n G v bk m) (hB0 : B ≤ wr.heap.size) (hB : Below wr.heap.size wr w') : LsM B w0 w' n G v bk m :=
  ⟨h.bel.trans (hB.mono hB0), own_below h.own hB, fun j hj => ⟨(h.rows j hj).1, (h.rows j hj).2.of_block (hB.block _ (h.rows j hj).2.lt)⟩, h.ap⟩
theorem LsM.ne (h : LsM B w0 wr n G v bk m) {c : Nat} {f : Nat → Value} (hc : wr.rowIs c 4 n f) : v.ownBlock ≠ some c := fun e => by
  obtain ⟨cs, h1, _⟩ := hc
  rcases h.own.2 with ⟨h2, _⟩ | ⟨gg, cap, cur, hv, _, hgg, _⟩
  · rw [h2] at e; cases e
  · rw [hv] at e; simp only [Value.ownBlock, Option.some.injEq] at e; subst e; rw [hgg] at h1; simp at h1
theorem LsM.push {b : Nat} (h : LsM B w0 wr n G v bk m) (hB0 : B ≤ wr.heap.size) (hbb : B ≤ b) (hx : wr.rowIs b 4 n (fun q => .bool (G m q))) (hnew : ∀ j, j < m → bk j ≠ b)
    (hown : w'.ownsRow B 65 1 v' (m + 1) ((List.range m).map (fun j => .slice (some ⟨bk j, 0, none⟩) n n) ++ [.slice (some ⟨b, 0, none⟩) n n])) (hg : wr.grownBy w' v.ownBlock) : LsM B w0 w' n G v' (fun j => if j = m then b else bk j) (m + 1) := by
  have hrow : ∀ {c : Nat} {f : Nat → Value}, wr.rowIs c 4 n f → w'.rowIs c 4 n f := fun {c f} hc => hc.of_block (hg.block c hc.lt (fun e => h.ne hc e.symm))
  refine ⟨h.bel.grown hg hB0 (fun k e => (h.own.lt k e).1), ?_, fun j hj => ?_, fun i j hi hj e => ?_⟩
  · have e : (List.range (m + 1)).map (fun j => Value.slice (some ⟨if j = m then b else bk j, 0, none⟩) n n) = (List.range m).map (fun j => .slice (some ⟨bk j, 0, none⟩) n n) ++ [.slice (some ⟨b, 0, none⟩) n n] := by
      rw [List.range_succ, List.map_append]
      congr 1
      · apply List.map_congr_left
        intro j hj
        have := List.mem_range.1 hj
        rw [if_neg (by omega)]
      · simp
    rw [e]; exact hown
  · by_cases e : j = m
    · subst e; simp only [if_pos]; exact ⟨hbb, hrow hx⟩
    · simp only [if_neg e]; exact ⟨(h.rows j (by omega)).1, hrow (h.rows j (by omega)).2⟩
  · by_cases e1 : i = m
    · by_cases e2 : j = m
      · omega
      · simp only [if_pos e1, if_neg e2] at e; exact absurd e.symm (hnew j (by omega))
    · by_cases e2 : j = m
      · simp only [if_neg e1, if_pos e2] at e; exact absurd e (hnew i (by omega))
      · simp only [if_neg e1, if_neg e2] at e; exact h.ap i j (by omega) (by omega) e
theorem LsM.mark (h : LsM B w0 wr n G v bk m) {p q : Nat} (hp : p < m) : LsM B w0 (wr.setCell ⟨bk p, q, none⟩ (.bool true)) n (fun a c => if a = p ∧ c = q then true else G a c) v bk m := by
  obtain ⟨h1, h2⟩ := h.rows p hp
  refine ⟨h.bel.setCell (by show B ≤ bk p; exact h1) _, own_blockR h.own (fun g hg => Below.heap_setCell _ _ _ _ (fun e => h.ne h2 (by rw [hg]; exact congrArg some e))), fun j hj => ?_, h.ap⟩
  refine ⟨(h.rows j hj).1, ?_⟩
  by_cases e : j = p
  · subst e
    refine (h2.set q (.bool true)).congr (fun c _ => ?_)
    by_cases e2 : c = q
    · simp [e2]
    · simp [e2]
  · refine ((h.rows j hj).2.of_block (Below.heap_setCell _ _ _ _ (fun e2 => e (h.ap j p hj hp e2)))).congr (fun c _ => ?_)
    simp [e]
theorem LsM.form (h : LsM B w0 wr n G v bk m) : ∃ va vc, v = .slice va m vc := by
  rcases h.own.2 with ⟨h1, h2⟩ | ⟨g, c, cur, hv, _⟩
  · subst h2; exact ⟨none, 0, h1⟩
  · exact ⟨_, c, hv⟩
theorem LsM.congr {G' : Nat → Nat → Bool} (h : LsM B w0 wr n G v bk m) (e : ∀ a c, a < m → c < n → G a c = G' a c) : LsM B w0 wr n G' v bk m :=
  ⟨h.bel, h.own, fun j hj => ⟨(h.rows j hj).1, (h.rows j hj).2.congr (fun c hc => by rw [e j c hj hc])⟩, h.ap⟩
/-- What is read of it. -/
theorem LsM.see (h : LsM B w0 wr n G v bk m) {p : Nat} (hp : p < m) : ∃ ob c, v = .slice (some ⟨ob, 0, none⟩) m c ∧ wr.cell? ⟨ob, p, none⟩ = some (.slice (some ⟨bk p, 0, none⟩) n n) ∧ ob < wr.heap.size ∧ B ≤ ob ∧ bk p < wr.heap.size ∧ ∀ q, q < n → wr.cell? ⟨bk p, q, none⟩ = some (.bool (G p q)) ∧ wr.frozen? ⟨bk p, q, none⟩ = false := by
  obtain ⟨_, hr⟩ := h.rows p hp
  rcases h.own.2 with ⟨_, h2⟩ | ⟨gg, cap, cur, hv, h3, hgg, h4⟩
  · omega
  · have hl := h.own.lt gg (by rw [hv]; rfl)
    have ho := h.own
    rw [hv] at ho
    have := ho.cells rfl p _ (by rw [List.getElem?_map, List.getElem?_range hp]; rfl)
    have hadd : (⟨gg, 0, none⟩ : Addr).add p = ⟨gg, p, none⟩ := by unfold Addr.add; split <;> simp_all
    rw [hadd] at this
    exact ⟨gg, cap, hv, this, hl.2, hl.1, hr.lt, fun q hq => ⟨hr.cell hq, hr.frozen q⟩⟩
end
end Go.Proofs.YtclannenknhfpaaGreatDoor

namespace Go.Proofs.YtclannenknhfpaaGreatDoor
open Go.RowKit Pl

set_option maxRecDepth 100000 in
/-- The closure of walk: notes one step. -/
theorem note_any {w : World} {pb mb n : Nat} {f : S → Option Unit} (hp : w.cell? ⟨pb, 0, none⟩ = some (.map (some mb))) (hM : OMap w mb encSv okS encU f n) (l c : Int) (hok : okS (l, c)) :
    Calls Tryz.prog 82 #[.int .i64 l, .int .i64 c, .pointer (some ⟨pb, 0, none⟩)] w fun e w' => e = .returned (.tuple #[]) ∧
      (∃ n', OMap w' mb encSv okS encU (fun z => if z = (l, c) then some () else f z) n') ∧ w.grownBy w' (some mb) := by
  have hpl := World.block_lt_of_cell? _ _ hp
  have HM := Lib.hid hM
  clear hM
  go_enter Tryz.func82, Tryz.ntmps82
  go_wp2_with (at_mapUpdate; refine wpList_oput rfl _ _ _ 123 rfl encStep Tryz.underlying123 rfl HM.out ((l, c) : S) hok rfl () rfl ?_; intro w1 hM1 hg1 hf1 hs1)
  go_end0
  exact ⟨rfl, ⟨_, hM1⟩, hg1⟩

/-- What state q does by classes, plainly. -/
def plainD (s : Lts) (C : List Int) (q : Int) : List S := (s.outs q).map (fun x => (x.1, atL C x.2))

/-- More steps are noted. -/
def addU (f : S → Option Unit) (L : List S) (z : S) : Option Unit := if z ∈ L then some () else f z
theorem addU_nil (f : S → Option Unit) (z : S) : addU f [] z = f z := by simp [addU]
theorem addU_snoc (f : S → Option Unit) (L : List S) (x z : S) : (if z = x then some () else addU f L z) = addU f (L ++ [x]) z := by
  unfold addU
  by_cases h : z = x
  · simp [h]
  · simp [h]
theorem addU_app (f : S → Option Unit) (L M : List S) (z : S) : addU (addU f L) M z = addU f (L ++ M) z := by
  unfold addU
  by_cases h : z ∈ M <;> by_cases h2 : z ∈ L <;> simp [h, h2]

/-- The world while steps are noted in the map mb, of which pb tells. -/
structure Noting (w0 w wr : World) (pb mb : Nat) (f : S → Option Unit) : Prop where
  bel : Below w0.heap.size w0 wr
  grown : w.grownBy wr (some mb)
  cell : wr.cell? ⟨pb, 0, none⟩ = some (.map (some mb))
  map : ∃ n, OMap wr mb encSv okS encU f n
  mlt : w0.heap.size ≤ mb
  pne : pb ≠ mb
theorem Noting.plt {w0 w wr : World} {pb mb : Nat} {f : S → Option Unit} (h : Noting w0 w wr pb mb f) : pb < wr.heap.size := World.block_lt_of_cell? _ _ h.cell
theorem Noting.call {w0 w wr w' : World} {pb mb : Nat} {f : S → Option Unit} (h : Noting w0 w wr pb mb f) (hB : Below wr.heap.size wr w') : Noting w0 w w' pb mb f := by
  obtain ⟨n, hm⟩ := h.map
  exact ⟨h.bel.trans (hB.mono h.bel.size), h.grown.trans ⟨hB.os, hB.tape, hB.output, hB.size, fun i hi _ => hB.block i hi⟩, by rw [hB.cell (p := ⟨pb, 0, none⟩) h.plt]; exact h.cell, ⟨n, hm.of_block (hB.block _ hm.lt)⟩, h.mlt, h.pne⟩
theorem Noting.note {w0 w wr w' : World} {pb mb : Nat} {f g : S → Option Unit} (h : Noting w0 w wr pb mb f) (hg : wr.grownBy w' (some mb)) (hm : ∃ n, OMap w' mb encSv okS encU g n) : Noting w0 w w' pb mb g :=
  ⟨h.bel.grown hg h.bel.size (fun k hk => by cases hk; exact h.mlt), h.grown.trans hg, by
    rw [World.cell?_of_block (w := wr) (a := ⟨pb, 0, none⟩) (hg.block pb h.plt (fun e => h.pne (Option.some.inj e)))]; exact h.cell, hm, h.mlt, h.pne⟩
theorem Noting.congr {w0 w wr : World} {pb mb : Nat} {f g : S → Option Unit} (h : Noting w0 w wr pb mb f) (e : ∀ z, f z = g z) : Noting w0 w wr pb mb g := by
  obtain ⟨n, hm⟩ := h.map
  exact ⟨h.bel, h.grown, h.cell, ⟨n, hm.congr e⟩, h.mlt, h.pne⟩

/-- Classes: a number of each state. -/
structure Cls (s : Lts) (n : Nat) (C : List Int) : Prop where
  len : C.length = n
  st : s.st = (n : Int)
  ok : ∀ x ∈ C, (Lit.int .i64 x).wf = true

set_option maxRecDepth 100000 in
set_option maxHeartbeats 2000000 in
theorem plain_any {w0 w : World} {gb : Nat} {s : Lts} (h : GraphAt w0 gb s) {n : Nat} {C : List Int} (hC : Cls s n C) {ca : Option Addr} {cb co cc : Nat} (hS : SlAt encI 1 w0 ca cb co C) {pb mb : Nat} {f : S → Option Unit} (hN : Noting w0 w w pb mb f) (q : Int) :
    Calls Tryz.prog 51 #[.pointer (some ⟨gb, 0, none⟩), .slice ca n cc, .int .i64 q, .func (.func 82) #[] #[.pointer (some ⟨pb, 0, none⟩)]] w fun e w' => e = .returned (.tuple #[]) ∧ Noting w0 w w' pb mb (addU f (plainD s C q)) := by
  have hea := each_any h hN.bel q
  have HEA := Lib.hid hea; have HH := Lib.hid h; have HS := Lib.hid hS; have HN := Lib.hid hN; have HC := Lib.hid hC
  have hn : n ≤ 1000 := by have := h.right.st0; have := hC.st; omega
  clear h hS hN hC hea
  go_enter Tryz.func51, Tryz.ntmps51
  go_wp2_with fail
  refine (HEA.out).mono ?_
  rintro e wb ⟨⟨a2, c2, b2, off2, rfl, hc2, hm2, hss⟩, hBb⟩
  have HN1 := Lib.hid (HN.out.call hBb)
  have HSS := Lib.hid hss
  have hsl : (s.outs q).length ≤ 10000 := outs_len HH.out.right q
  clear hss hBb hc2 hm2 HN HEA
  go_wp2_with fail
  go_loopw [9, 14] (fun _ v14 wr => ∃ k : Nat, v14 = .int .i64 k ∧ k ≤ (s.outs q).length ∧ Noting w0 w wr pb mb (addU f ((plainD s C q).take k))) (fun _ v14 _ => (s.outs q).length - (intOf v14).toNat)
  case atStart => exact ⟨0, rfl, Nat.zero_le _, HN1.out.congr (fun z => by rw [List.take_zero, addU_nil])⟩
  case round =>
    obtain ⟨k, rfl, hk, hnr⟩ := hrel
    have HNR := Lib.hid hnr
    have hpl := hnr.plt
    have hpc := hnr.cell
    clear hnr HN1
    by_cases hlt : k < (s.outs q).length
    · obtain ⟨y, hy⟩ := getElem?_of_lt hlt
      have hss := HSS.out.below HNR.out.bel (Nat.le_refl _)
      obtain rfl := hss.ad (by omega)
      have d0 := hss.s0 hy; have d1 := hss.s1 hy
      have dl := hss.lt (by omega)
      have hyr := offB_false.1 (HH.out.right.edges _ (mem_outs.1 (List.mem_of_getElem? hy)))
      have hD : (plainD s C q)[k]? = some (y.1, atL C y.2) := by unfold plainD; rw [List.getElem?_map, hy]; rfl
      have hlb := HH.out.right.st0
      obtain ⟨y1, y2⟩ := y
      simp only at hyr d0 d1 hD
      obtain ⟨t, rfl⟩ := Int.eq_ofNat_of_zero_le hyr.2.2.2.2.1
      have hst := HC.out.st
      have htn : t < n := by omega
      have htI : (t : Int) < (n : Int) := by omega
      have hcs := HS.out.below HNR.out.bel (Nat.le_refl _)
      have hcl := HC.out.len
      obtain rfl := hcs.ad (by omega)
      obtain ⟨x, hx⟩ := getElem?_of_lt (xs := C) (i := t) (by omega)
      have hcx := hcs.ci hx
      have hcbl := hcs.lt (by omega)
      have hax : atL C (t : Int) = x := by unfold atL; rw [List.getD_eq_getElem?_getD]; simp [hx]
      rw [hax] at hD
      have hok : okS (y1, x) := ⟨WalkArith.wf_i64 (by omega), HC.out.ok x (List.mem_of_getElem? hx)⟩
      have hkI : (k : Int) < ((s.outs q).length : Int) := by omega
      have HD := Lib.hid hD; have HOK := Lib.hid hok
      have hm := HNR.out.mlt
      have hcm : cb ≠ mb := by have := HS.out.lt (by omega); omega
      clear hy hss hyr hD hlb hst hcs hcl hx hax hok
      go_wp2_with fail
      obtain ⟨W, hW⟩ : ∃ W, W = wr.alloc (.cells #[.int .i64 y1, .int .i64 t] 84) := ⟨_, rfl⟩
      have hBW : Below wr.heap.size wr W := by rw [hW]; exact (Below.refl _ _).alloc (Nat.le_refl _) _
      have hmr : mb < wr.heap.size := by obtain ⟨_, hm⟩ := HNR.out.map; exact hm.lt
      have hws : wr.heap.size < W.heap.size := by rw [hW]; simp
      have s0 : W.cell? ⟨wr.heap.size, 0, none⟩ = some (.int .i64 y1) := by rw [hW]; simp
      have s1 : W.cell? ⟨wr.heap.size, 1, none⟩ = some (.int .i64 t) := by rw [hW]; simp
      have s2 : W.cell? ⟨cb, co + t, none⟩ = some (.int .i64 x) := by rw [hBW.cell (p := ⟨cb, co + t, none⟩) hcbl]; exact hcx
      have hNW := HNR.out.call hBW
      rw [← hW]
      have hkeep : ∀ w' : World, (∀ b, b < W.heap.size → b ≠ mb → w'.heap[b]? = W.heap[b]?) → (w'.cell? ⟨wr.heap.size, 0, none⟩ = some (.int .i64 y1) ∧ w'.cell? ⟨wr.heap.size, 1, none⟩ = some (.int .i64 t) ∧ w'.cell? ⟨cb, co + t, none⟩ = some (.int .i64 x)) := fun w' hb =>
        ⟨(World.cell?_of_block (a := ⟨wr.heap.size, 0, none⟩) (hb wr.heap.size hws (by omega))).trans s0, (World.cell?_of_block (a := ⟨wr.heap.size, 1, none⟩) (hb wr.heap.size hws (by omega))).trans s1, (World.cell?_of_block (a := ⟨cb, co + t, none⟩) (hb cb (by omega) hcm)).trans s2⟩
      have HK := Lib.hid hkeep; have HNW := Lib.hid (hNW.call (w' := W.drew) (Below.refl _ _).drew)
      clear hkeep hNW hW hBW HNR hcx d0 d1 dl hpc hpl
      have hz : W.drew.heap.size = W.heap.size := rfl
      go_region_held3 (fun w' => w'.cell? ⟨wr.heap.size, 0, none⟩ = some (.int .i64 y1) ∧ w'.cell? ⟨wr.heap.size, 1, none⟩ = some (.int .i64 t) ∧ w'.cell? ⟨cb, co + t, none⟩ = some (.int .i64 x))
        (first | exact HK.out _ (fun _ _ _ => rfl) | exact HK.out _ (by assumption))
        ((go_at_call 82; refine (note_any HNW.out.cell HNW.out.map.choose_spec y1 x HOK.out).mono ?_; rintro e w7 ⟨rfl, hm7, hg7⟩; have hb7 : ∀ b, b < W.heap.size → b ≠ mb → w7.heap[b]? = W.heap[b]? := fun b hb hne => hg7.block b hb (fun e => hne (Option.some.inj e))))
      have hn7 := (HNW.out.note hg7 hm7).congr (g := addU f ((plainD s C q).take (k + 1))) (fun z => by rw [take_snoc HD.out]; exact addU_snoc f _ _ z)
      have HN7 := Lib.hid hn7
      clear hn7 hm7 hg7 hb7 HK HNW
      go_wp2_with fail
      go_roundw
      case rel => exact ⟨k + 1, by go_num, by omega, HN7.out⟩
      case measure => simp [intOf]; omega
    · have hkk : (s.outs q).length = k := by omega
      subst hkk
      have hfin : Noting w0 w wr pb mb (addU f (plainD s C q)) := HNR.out.congr (fun z => by rw [List.take_of_length_le (by unfold plainD; simp)])
      have HF := Lib.hid hfin
      clear hfin HNR hpc
      go_wp2_with fail
      go_end0
      exact ⟨rfl, HF.out⟩
end Go.Proofs.YtclannenknhfpaaGreatDoor
