/-
  Plain: the system of the reachable states alone.
  The errors: the package-level ones in memory; fault.New; system.offends, system.Check.
  The frame of the cards: the world of the witness, the package-level error, how arguments open.
  How an api.System that came in opens: three numbers and a list of edges.
  system.Check: nil of a system that is one, a fault of any other.
-/
import Derived.Test.YtkmljelgogcobaaGreatDoorGPl3
import Derived.Test.YtkmljelgogcobaaGreatDoorGBase
import Derived.Test.YtkmljelgogcobaaGreatDoorGPl1
import Derived.Outline
import Derived.Test.YtkmljelgogcobaaGreatDoorCards
import Derived.Test.YtkmljelgogcobaaGreatDoorTie
import Derived.ProofKit
import Derived.OpenShut
import Derived.Deep.DeepHandedRow
import Derived.Deep.DeepWitnessRowRef
import Derived.Lib.LaidIn
import Derived.Stop.LaidErr
import Derived.Lib.SmallJoins
namespace Go.Proofs.YtkmljelgogcobaaGreatDoor
namespace Pl

/-- How many of a list are below a number. -/
def cnt (L : List Int) (k : Int) : Nat := (L.filter (fun x => decide (x < k))).length

theorem cnt_idx : ∀ (L : List Int), Srt ltI L → ∀ x ∈ L, L.idxOf x = cnt L x
  | [], _, x, h => by simp at h
  | y :: L, hs, x, h => by
    have hy := List.pairwise_cons.1 hs
    unfold cnt
    by_cases e : y = x
    · subst e
      have hn : L.filter (fun z => decide (z < y)) = [] := by
        rw [List.filter_eq_nil_iff]; intro z hz
        have := hy.1 z hz; simp [ltI] at this; simp; omega
      first | simp [hn] | simp [List.filter_cons, hn]
    · have hx : x ∈ L := by simpa [fun h => e (Eq.symm h), Ne.symm e] using h
      have hlt : y < x := by have := hy.1 x hx; simpa [ltI] using this
      have ih := cnt_idx L hy.2 x hx
      unfold cnt at ih
      rw [List.idxOf_cons]
      have hb : (y == x) = false := by simp [e]
      simp only [hb, List.filter_cons, decide_eq_true hlt, if_true, List.length_cons, cond_false]
      omega

theorem cnt_zero {L : List Int} (h : ∀ x ∈ L, 0 ≤ x) : cnt L 0 = 0 := by
  unfold cnt
  rw [List.length_eq_zero_iff, List.filter_eq_nil_iff]
  intro x hx; have := h x hx; simp; omega
theorem cnt_all {L : List Int} {n : Int} (h : ∀ x ∈ L, x < n) : cnt L n = L.length := by
  unfold cnt
  rw [List.filter_eq_self.2]
  intro x hx; have := h x hx; simp; omega
theorem cnt_succ : ∀ {L : List Int}, Srt ltI L → ∀ k : Int, cnt L (k + 1) = cnt L k + (if k ∈ L then 1 else 0)
  | [], _, k => by simp [cnt]
  | y :: L, hs, k => by
    have hy := List.pairwise_cons.1 hs
    have ih := cnt_succ hy.2 k
    unfold cnt at *
    rcases Int.lt_trichotomy y k with h | h | h
    · have b1 : decide (y < k + 1) = true := by simp; omega
      have b2 : decide (y < k) = true := by simp; omega
      simp only [List.filter_cons, b1, b2, if_true, List.length_cons, ih, List.mem_cons]
      have : k ≠ y := by omega
      simp [this]; omega
    · subst h
      have hn : y ∉ L := fun h => by have := hy.1 y h; simp [ltI] at this
      have b1 : decide (y < y + 1) = true := by simp; omega
      have b2 : decide (y < y) = false := by simp
      simp only [hn, if_false, Nat.add_zero] at ih
      first | simp [b1, ih] | simp [List.filter_cons, b1, b2, ih]
    · have b1 : decide (y < k + 1) = false := by simp; omega
      have b2 : decide (y < k) = false := by simp; omega
      have hn : k ∉ L := fun hk => by have := hy.1 k hk; simp [ltI] at this; omega
      simp only [hn, if_false, Nat.add_zero] at ih
      have : k ≠ y := by omega
      first | simp [b1, b2, ih, hn, this] | simp [List.filter_cons, b1, b2, ih, hn, this]

theorem srt_nodup {L : List Int} (h : Srt ltI L) : L.Nodup := h.imp (fun {a b} h => by simp [ltI] at h; omega)

theorem idx_get : ∀ {L : List Int}, L.Nodup → ∀ {i : Nat} {x : Int}, L[i]? = some x → L.idxOf x = i
  | [], _, i, x, h => by simp at h
  | y :: L, hn, 0, x, h => by simp at h; subst h; simp
  | y :: L, hn, i + 1, x, h => by
    have hy := List.nodup_cons.1 hn
    have hx : L[i]? = some x := by simpa using h
    have hb : (y == x) = false := by
      simp; rintro rfl; exact hy.1 (List.mem_of_getElem? hx)
    rw [List.idxOf_cons, hb, idx_get hy.2 hx]; rfl

/-- The new number of a state. -/
noncomputable def toOf (s : Lts) (x : Int) : Int := if x ∈ reachL s then ((reachL s).idxOf x : Int) else -1
noncomputable def toL (s : Lts) : List Int := (List.range s.st.toNat).map (fun (i : Nat) => toOf s (i : Int))
noncomputable def cutE (s : Lts) : List E := (s.es.filter (fun x => decide (0 ≤ toOf s x.1))).map (fun x => (toOf s x.1, x.2.1, toOf s x.2.2))
noncomputable def cut (s : Lts) : Lts := ⟨(reachL s).length, s.lb, if (reachL s).length = 0 then 0 else toOf s s.s0, cutE s⟩

theorem toL_len (s : Lts) : (toL s).length = s.st.toNat := by simp [toL]
theorem toL_get {s : Lts} {i : Nat} (h : i < s.st.toNat) : (toL s)[i]? = some (toOf s (i : Int)) := by simp [toL, h]
theorem toOf_in {s : Lts} {x : Int} (h : x ∈ reachL s) : toOf s x = ((reachL s).idxOf x : Int) ∧ 0 ≤ toOf s x ∧ toOf s x < (reachL s).length := by
  have := List.idxOf_lt_length_of_mem h
  unfold toOf; rw [if_pos h]; omega
theorem toOf_out {s : Lts} {x : Int} (h : x ∉ reachL s) : toOf s x = -1 := by unfold toOf; rw [if_neg h]
theorem toOf_iff {s : Lts} {x : Int} : 0 ≤ toOf s x ↔ x ∈ reachL s := by
  by_cases h : x ∈ reachL s
  · simp [h, (toOf_in h).2.1]
  · rw [toOf_out h]; simp [h]
theorem toOf_get {s : Lts} {i : Nat} {x : Int} (h : (reachL s)[i]? = some x) : toOf s x = i := by
  rw [(toOf_in (List.mem_of_getElem? h)).1, idx_get (srt_nodup (reachL_srt s)) h]
theorem toOf_cnt {s : Lts} {x : Int} (h : x ∈ reachL s) : toOf s x = (cnt (reachL s) x : Int) := by
  rw [(toOf_in h).1, cnt_idx _ (reachL_srt s) _ h]

theorem reachL_rng {s : Lts} {x : Int} (h : x ∈ reachL s) : 0 ≤ x ∧ x < s.st := by
  unfold reachL at h
  obtain ⟨h1, _⟩ := List.mem_filter.1 h
  obtain ⟨i, hi, rfl⟩ := List.mem_map.1 h1
  rw [List.mem_range] at hi
  show 0 ≤ (i : Int) ∧ (i : Int) < s.st
  omega
theorem reachL_step {s : Lts} (hr : s.Right) {x : E} (hx : x ∈ s.es) (h : x.1 ∈ reachL s) : x.2.2 ∈ reachL s := by
  have h1 := offB_false.1 (hr.edges x hx)
  have h0 : s.st ≠ 0 := by omega
  rw [mem_reachL hr h0] at *
  exact h.step (l := x.2.1) hx

theorem mem_cutE {s : Lts} {y : E} : y ∈ cutE s ↔ ∃ x ∈ s.es, x.1 ∈ reachL s ∧ y = (toOf s x.1, x.2.1, toOf s x.2.2) := by
  unfold cutE
  simp only [List.mem_map, List.mem_filter, decide_eq_true_eq, toOf_iff]
  constructor
  · rintro ⟨x, ⟨h1, h2⟩, rfl⟩; exact ⟨x, h1, h2, rfl⟩
  · rintro ⟨x, h1, h2, rfl⟩; exact ⟨x, ⟨h1, h2⟩, rfl⟩

theorem start_in {s : Lts} (hr : s.Right) (h : s.st ≠ 0) : s.s0 ∈ reachL s := (mem_reachL hr h).2 (Rch.start s)

theorem cutE_len (s : Lts) : (cutE s).length ≤ s.es.length := by
  unfold cutE; rw [List.length_map]; exact List.length_filter_le _ _

theorem cut_right {s : Lts} (hr : s.Right) : (cut s).Right := by
  have h0 := hr.st0
  have hl := reachL_len (s := s)
  refine ⟨?_, fun y hy => ?_⟩
  · have h2 := cutE_len s
    have h3 : 0 ≤ (cut s).s0 ∧ ((cut s).s0 = 0 ∨ (cut s).s0 < (reachL s).length) := by
      simp only [cut]
      split
      · simp
      · rename_i hne
        have hst : s.st ≠ 0 := fun e => hne (by rw [reachL_nil e]; rfl)
        have := toOf_in (start_in hr hst)
        omega
    unfold HeadBad
    simp only [cut] at *
    omega
  · obtain ⟨x, hx, hxr, rfl⟩ := mem_cutE.1 hy
    have h1 := toOf_in hxr
    have h2 := toOf_in (reachL_step hr hx hxr)
    have h3 := offB_false.1 (hr.edges x hx)
    rw [offB_false]
    simp only [cut]
    omega

theorem cut_rch {s : Lts} (hr : s.Right) (h0 : s.st ≠ 0) {x : Int} (h : Rch s x) : Rch (cut s) (toOf s x) := by
  have hs := start_in hr h0
  have hne : (reachL s).length ≠ 0 := fun e => by rw [List.eq_nil_of_length_eq_zero e] at hs; simp at hs
  have := h (fun x => Rch s x ∧ Rch (cut s) (toOf s x)) ⟨Rch.start s, by
    have := Rch.start (cut s)
    simp only [cut, hne, if_false] at this ⊢
    exact this⟩ (by
    rintro a l b ⟨h1, h2⟩ he
    refine ⟨h1.step he, h2.step (l := l) ?_⟩
    exact mem_cutE.2 ⟨(a, l, b), he, (mem_reachL hr h0).2 h1, rfl⟩)
  exact this.2

theorem rch_norm {s : Lts} {x : Int} (h : Rch s x) : Rch s.norm x :=
  fun P h0 h1 => h P h0 (fun a l b ha he => h1 a l b ha ((mem_nf stoE _ s.es).2 he))
theorem rch_of_norm {s : Lts} {x : Int} (h : Rch s.norm x) : Rch s x :=
  fun P h0 h1 => h P h0 (fun a l b ha he => h1 a l b ha ((mem_nf stoE _ s.es).1 he))
theorem reachL_norm (s : Lts) : reachL s.norm = reachL s := by
  unfold reachL
  congr 1
  funext x
  congr 1
  exact propext ⟨rch_of_norm, rch_norm⟩

/-- All of the cut's states are reachable. -/
theorem cut_all {s : Lts} (hr : s.Right) (h0 : s.st ≠ 0) : (reachL (cut s).norm).length = (reachL s).length := by
  rw [reachL_norm]
  have hst : (cut s).st = ((reachL s).length : Int) := rfl
  have hc : reachL (cut s) = (List.range (reachL s).length).map Int.ofNat := by
    unfold reachL
    rw [hst, Int.toNat_natCast]
    rw [List.filter_eq_self.2]
    · rfl
    intro x hx
    obtain ⟨i, hi, rfl⟩ := List.mem_map.1 hx
    rw [List.mem_range] at hi
    obtain ⟨y, hy⟩ : ∃ y, (reachL s)[i]? = some y := ⟨_, List.getElem?_eq_getElem hi⟩
    have := cut_rch hr h0 ((mem_reachL hr h0).1 (List.mem_of_getElem? hy))
    rw [toOf_get hy] at this
    simpa using this
  rw [hc]; simp

end Pl
end Go.Proofs.YtkmljelgogcobaaGreatDoor

namespace Go.Proofs.YtkmljelgogcobaaGreatDoor
open Go.RowKit Pl

theorem faultNew_any (s : ByteArray) (t : TypeId) (v : Value) (w : World) : Calls Tryz.prog 125 #[.string s, .iface t v] w fun e w' =>
    e = .returned (.iface 131 (.pointer (some ⟨w.heap.size, 0, none⟩))) ∧ w' = w.alloc (.cells #[.string s, .int .i64 0, .int .i64 0, .iface t v] 134) := by
  go_enter Tryz.func125, Tryz.ntmps125
  go_wp2
  go_ret
  exact ⟨rfl, rfl⟩

/-- A package-level error: a pointer. -/
structure GErr (g : Nat) (p : Addr) (w : World) : Prop where
  lt : g < w.heap.size
  cell : w.cell? ⟨g, 0, none⟩ = some (.iface 248 (.pointer (some p)))

theorem GErr.below {g : Nat} {p : Addr} {w w' : World} (h : GErr g p w) (hB : Below w.heap.size w w') : GErr g p w' :=
  ⟨Nat.lt_of_lt_of_le h.lt hB.size, by rw [hB.cell (p := ⟨g, 0, none⟩) h.lt]; exact h.cell⟩

/-- A fault of a layer, without a place. -/
structure FaultAt (w : World) (v : Value) (layer : ByteArray) (inner : Value) : Prop where
  ex : ∃ b, v = .iface 131 (.pointer (some ⟨b, 0, none⟩)) ∧ w.heap[b]? = some (.cells #[.string layer, .int .i64 0, .int .i64 0, inner] 134 (0, 0))

theorem offends_any (st lb s0 : Int) (es : Value) (x : E) (w : World) :
    Calls Tryz.prog 126 #[.agg #[.int .i64 st, .int .i64 lb, .int .i64 s0, es], .agg #[.int .i64 x.1, .int .i64 x.2.1, .int .i64 x.2.2]] w fun e w' =>
      e = .returned (.bool (offB st lb x)) ∧ Below w.heap.size w w' := by
  unfold offB
  go_enter Tryz.func126, Tryz.ntmps126
  go_wp2
  all_goals (go_ret; exact ⟨by simp [*]; try omega, ((Below.refl _ _).alloc (Nat.le_refl _) _).alloc (by simp) _⟩)

set_option maxRecDepth 100000 in
set_option maxHeartbeats 1000000 in
theorem check_head {p : Addr} (st lb s0 : Int) (a : Option Addr) (n c : Nat) (w : World) (hG : GErr 0 p w) (h : HeadBad st lb s0 n) :
    Calls Tryz.prog 63 #[.agg #[.int .i64 st, .int .i64 lb, .int .i64 s0, .slice a n c]] w fun e w' => ∃ v, e = .returned v ∧ FaultAt w' v ⟨#[115, 121, 115, 116, 101, 109]⟩ (.iface 248 (.pointer (some p))) ∧ Below w.heap.size w w' := by
  unfold HeadBad at h
  have hg := hG.cell
  have hlt := hG.lt
  go_enter Tryz.func63, Tryz.ntmps63
  go_wp2_with (go_at_call 125; refine (faultNew_any _ _ _ _).mono ?_; rintro e w1 ⟨rfl, rfl⟩)
  all_goals (go_ret; exact ⟨_, rfl, ⟨w.heap.size + 1, rfl, by simpa using heap_alloc_new (w.alloc (.cells #[.int .i64 st, .int .i64 lb, .int .i64 s0, .slice a n c] 24)) (.cells #[.string ⟨#[115, 121, 115, 116, 101, 109]⟩, .int .i64 0, .int .i64 0, .iface 248 (.pointer (some p))] 134)⟩, ((Below.refl _ _).alloc (Nat.le_refl _) _).alloc (by simp) _⟩)

/-- What system.Check answers where the head is right. -/
def CheckPost (st lb : Int) (xs : List E) (p : Addr) (e : Ending) (w' : World) : Prop :=
  if xs.all (fun x => !offB st lb x) then e = .returned .nilIface else ∃ v, e = .returned v ∧ FaultAt w' v ⟨#[115, 121, 115, 116, 101, 109]⟩ (.iface 248 (.pointer (some p)))

set_option maxRecDepth 100000 in
set_option maxHeartbeats 1000000 in
/-- system.Check, the head of the system being right. -/
theorem check_body {p : Addr} (st lb s0 : Int) (a : Option Addr) (b off c : Nat) (xs : List E) (w : World) (hG : GErr 0 p w) (h : ¬ HeadBad st lb s0 xs.length) (hS : SlAt encE 3 w a b off xs) :
    Calls Tryz.prog 63 #[.agg #[.int .i64 st, .int .i64 lb, .int .i64 s0, .slice a xs.length c]] w fun e w' =>
      CheckPost st lb xs p e w' ∧ Below w.heap.size w w' := by
  unfold HeadBad at h
  have hg := hG.cell
  have hlt := hG.lt
  obtain ⟨h1, h2, h3, h4, h5, h6, h7⟩ : 0 ≤ st ∧ st ≤ 1000 ∧ 1 ≤ lb ∧ lb ≤ 201 ∧ 0 ≤ s0 ∧ (s0 = 0 ∨ s0 < st) ∧ (xs.length : Int) ≤ 10000 := by omega
  clear h
  obtain ⟨C, hC⟩ : ∃ C, C = Obj.cells #[.int .i64 st, .int .i64 lb, .int .i64 s0, .slice a xs.length c] 24 := ⟨_, rfl⟩
  obtain ⟨F, hF⟩ : ∃ F, F = Obj.cells #[.string ⟨#[115, 121, 115, 116, 101, 109]⟩, .int .i64 0, .int .i64 0, .iface 248 (.pointer (some p))] 134 := ⟨_, rfl⟩
  have HC := Lib.hid hC; have HF := Lib.hid hF
  clear hC hF
  go_enter Tryz.func63, Tryz.ntmps63
  go_wp2_with (go_at_call 125; refine (faultNew_any _ _ _ _).mono ?_; rintro e w1 ⟨rfl, rfl⟩)
  all_goals
    rw [← HC.out, ← HF.out]
    go_loopw [5, 54] (fun _ i wr => ∃ k : Nat, k ≤ xs.length ∧ i = .int .i64 k ∧ (∀ j x, j < k → xs[j]? = some x → offB st lb x = false) ∧ Below (w.heap.size + 2) ((w.alloc C).alloc F) wr)
      (fun _ i _ => xs.length - (intOf i).toNat)
    case atStart => exact ⟨0, Nat.zero_le _, rfl, by intro j x hj; omega, Below.refl _ _⟩
    case round =>
      obtain ⟨k, hk, rfl, hz, hB⟩ := hrel
      have HZ := Lib.hid hz; clear hz
      have hsz : w.heap.size + 2 ≤ wr.heap.size := by simpa using hB.size
      have q0 : wr.heap[w.heap.size]? = some C := by
        rw [hB.block _ (by omega), Below.heap_alloc _ _ _ (by simp), heap_alloc_new]
      have q1 : wr.heap[w.heap.size + 1]? = some F := by
        rw [hB.block _ (by omega)]; simpa using heap_alloc_new (w.alloc C) F
      rw [HC.out] at q0; rw [HF.out] at q1
      have s0' : wr.cell? ⟨w.heap.size, 0, none⟩ = some (.int .i64 st) := by simp [World.cell?, q0]
      have s1' : wr.cell? ⟨w.heap.size, 1, none⟩ = some (.int .i64 lb) := by simp [World.cell?, q0]
      have s2' : wr.cell? ⟨w.heap.size, 2, none⟩ = some (.int .i64 s0) := by simp [World.cell?, q0]
      have s3' : wr.cell? ⟨w.heap.size, 3, none⟩ = some (.slice a xs.length c) := by simp [World.cell?, q0]
      have Q1 := Lib.hid q1
      have hBw : Below w.heap.size w wr := (((Below.refl _ _).alloc (Nat.le_refl _) C).alloc (by simp) F).trans (hB.mono (by omega))
      have hltr : w.heap.size < wr.heap.size := by omega
      clear q0 q1
      by_cases hlt2 : k < xs.length
      · obtain ⟨x, hx⟩ := getElem?_of_lt hlt2
        obtain rfl := hS.ad (by omega)
        have hS' := hS.below hBw (Nat.le_refl _)
        have c0 := hS'.e0 hx; have c1 := hS'.e1 hx; have c2 := hS'.e2 hx
        have hbl := hS'.lt (by omega)
        have HX := Lib.hid hx
        have HS := Lib.hid hS
        clear hx hS hS' hg
        by_cases ho : offB st lb x = true
        · have HO := Lib.hid ho
          go_wp2_with (go_at_call 126; refine (offends_any st lb s0 _ x _).mono ?_; rintro e w1 ⟨rfl, hB1⟩)
          go_ret
          have hall : xs.all (fun x => !offB st lb x) = false := by
            rw [List.all_eq_false]
            exact ⟨x, List.mem_of_getElem? HX.out, by simp [HO.out]⟩
          have hB2 := (hB.alloc hsz _).trans (hB1.mono (by simp; omega))
          refine ⟨by unfold CheckPost; rw [hall]; exact ⟨_, rfl, ⟨w.heap.size + 1, rfl, by rw [hB2.block _ (by omega), ← HF.out]; simpa using heap_alloc_new (w.alloc C) F⟩⟩, (((Below.refl _ _).alloc (Nat.le_refl _) C).alloc (by simp) F).trans (hB2.mono (by omega))⟩
        · have ho' : offB st lb x = false := by simpa using ho
          have HO := Lib.hid ho'
          clear ho
          go_wp2_with (go_at_call 126; refine (offends_any st lb s0 _ x _).mono ?_; rintro e w1 ⟨rfl, hB1⟩)
          go_roundw
          case rel => exact ⟨k + 1, by omega, by go_num, by
            intro j y hj hy
            by_cases hjk : j = k
            · subst hjk
              rw [HX.out] at hy
              simp at hy; subst hy
              exact HO.out
            · exact HZ.out j y (by omega) hy, (hB.alloc hsz _).trans (hB1.mono (by simp; omega))⟩
          case measure => simp [intOf]; omega
      · clear hS hg
        go_wp2
        go_ret
        have hall : xs.all (fun x => !offB st lb x) = true := by
          rw [List.all_eq_true]
          intro x hx
          obtain ⟨j, hj, rfl⟩ := List.getElem_of_mem hx
          simp [HZ.out j _ (by omega) (List.getElem?_eq_getElem hj)]
        exact ⟨by unfold CheckPost; rw [hall]; rfl, hBw⟩

end Go.Proofs.YtkmljelgogcobaaGreatDoor

namespace Go.Proofs.YtkmljelgogcobaaGreatDoor
open Go.ChangeShapes Go.WideShapes Go.ChangeAt Go.RowKit Go.Lib

theorem ownKnob_none : ownKnob Tryz.prog.godebug = none := by kernel_rfl
theorem prog_laidOut : laidOutB Tryz.prog = true := by kernel_rfl

def sysText : List UInt8 := [97, 32, 115, 121, 115, 116, 101, 109, 32, 116, 104, 97, 116, 32, 105, 115, 32, 110, 111, 110, 101]

/-- A WORLD FOR THE WITNESS: the settled one, one block more: the error's struct; the variable holding its pointer. -/
noncomputable def laidWorld (os : Os) : World :=
  let N := (World.settled Tryz.prog os).heap.size
  let w0 := World.holding Tryz.prog os ⟨#[.cells #[.string ⟨sysText.toArray⟩] 268], #[], []⟩
  { w0 with heap := w0.heap.modify 0 fun
      | .cells _ t frozen => .cells #[.iface 248 (.pointer (some ⟨N, 0, none⟩))] t frozen
      | o => o }
noncomputable abbrev nBlock : Nat := (World.settled Tryz.prog default).heap.size
theorem laidIn_sys (os : Os) (args : Array Value) : LaidIn Tryz.prog ((laidWorld os).forCall (fun _ _ => 0) ⟨#[], args, []⟩).memory [("semblance/api.ErrSystem", Rows.laid_semblance_api_ErrSystem)] [0, nBlock] :=
  LaidIn.of_run [0, nBlock] 8 (by kernel_rfl) (by kernel_rfl) (by kernel_rfl) (by kernel_rfl)
theorem laid_met (os : Os) (args : Array Value) : laidMet Tryz.prog [("semblance/api.ErrSystem", Rows.laid_semblance_api_ErrSystem)] ((laidWorld os).forCall (fun _ _ => 0) ⟨#[], args, []⟩).memory :=
  (laidIn_sys os args).met

theorem star_es : "*" ++ "errors.errorString" = "*errors.errorString" := by decide
theorem row_es (u : TypeId) (h : Tryz.prog.typeName? 3 u = some "*errors.errorString") : u = 248 :=
  typeName_ptr_named (nm := "errors.errorString") (by rw [star_es]; kernel_rfl) (by kernel_rfl) (by decide) u (by rw [star_es]; exact h)

/-- WHAT THE ROW's LIST GIVES: the variable holds a pointer. -/
theorem gerr_sys {r : List (String × DataW Unit)} {W : World} (h : laidMet Tryz.prog (("semblance/api.ErrSystem", Rows.laid_semblance_api_ErrSystem) :: r) W) : ∃ p, GErr 0 p W := by
  obtain ⟨a, s, hv, hc, _, _⟩ := laid_sentinel (g := 0) h (by kernel_rfl) (by kernel_rfl) Tryz.underlying28 row_es Tryz.underlying248 Tryz.underlying268 rfl rfl Tryz.underlying9 (by kernel_rfl) (by kernel_rfl)
  have hcell := World.var?_cell (g := 0) (by kernel_rfl) hv 0
  have hcell : W.cell? ⟨0, 0, none⟩ = some (.iface 248 (.pointer (some a))) := by simpa using hcell
  exact ⟨a, World.block_lt_of_cell? _ _ hcell, hcell⟩

/-- A list of numbers that came in. -/
theorem open_intList {H : Type} {enc : TypeId × Value → H} {W : World} {fuel : Nat} {a : Option Addr} {n c : Nat} {x : DataW H × List MemPlace}
    (h : DataW.trod enc Tryz.prog W 0 (fun _ => true) true fuel 49 [.slice a n c] = some x) :
    ∃ (b off : Nat) (xs : List Int), n = xs.length ∧ xs.length ≤ maxLen ∧ SlAt encI 1 W a b off xs ∧ ∀ y ∈ xs, (Lit.int .i64 y).wf = true := by
  rcases open_ints Tryz.underlying49 Tryz.underlying3 (by kernel_rfl) h with ⟨hcs, _⟩ | ⟨ad, len, cap, zs, hcs, _, hl, hm, hz, _, hcell, hw⟩
  · simp at hcs
    obtain ⟨rfl, rfl, rfl⟩ := hcs
    exact ⟨0, 0, [], rfl, by simp, slAt_nil _ _ _ _, by simp⟩
  · simp at hcs
    obtain ⟨rfl, rfl, rfl⟩ := hcs
    simp only [if_true] at hz
    obtain ⟨b, off, spot⟩ := ad
    refine ⟨b, off, zs.take n, by simp; omega, by simp; omega, ?_, fun y hy => hw y (List.mem_of_mem_take hy)⟩
    have hcl : 0 < n → spot = none ∧ b < W.heap.size := by
      intro h0
      have hc0 := hcell 0 (by omega)
      have hspot : spot = none := by simpa [Addr.add] using World.cell?_spot hc0
      subst hspot
      exact ⟨rfl, World.block_lt_of_cell? _ _ hc0⟩
    refine ⟨fun hp => ?_, fun hp => (hcl (by simp at hp; omega)).2, fun i y hy j u hu => ?_⟩
    · obtain ⟨rfl, _⟩ := hcl (by simp at hp; omega)
      rfl
    · have hi : i < n := by have := (List.getElem?_eq_some_iff.1 hy).1; simp at this; omega
      obtain ⟨rfl, _⟩ := hcl (by omega)
      match j, hu with
      | 0, hu =>
        simp [encI] at hu; subst hu
        rw [List.getElem?_take_of_lt hi] at hy
        have := hcell i (by omega)
        rw [List.getD_eq_getElem?_getD, hy, Go.WideShapes.add_plain] at this
        simpa using this
end Go.Proofs.YtkmljelgogcobaaGreatDoor

namespace Go.Proofs.YtkmljelgogcobaaGreatDoor
open Go.ChangeShapes Go.WideShapes Go.ChangeAt Go.RowKit Go.Lib Go.Deep Pl

theorem cellsInt : Tryz.prog.cellsOf 3 = 1 := by kernel_rfl
theorem cellsEdge : Tryz.prog.cellsOf 79 = 3 := by kernel_rfl

def wfE (x : E) : Prop := (Lit.int .i64 x.1).wf = true ∧ (Lit.int .i64 x.2.1).wf = true ∧ (Lit.int .i64 x.2.2).wf = true

set_option maxRecDepth 100000 in
theorem open_edge {H : Type} {enc : TypeId × Value → H} {W : World} {fuel : Nat} {cs : List Value} {x : DataW H × List MemPlace}
    (h : DataW.trod enc Tryz.prog W 0 (fun _ => true) true fuel 79 cs = some x) : ∃ e : E, cs = encE e ∧ wfE e := by
  obtain ⟨y0, y1, y2, n, _, hl, h0, h1, h2⟩ := trod_struct3 Tryz.underlying79 h
  rw [cellsEdge] at hl
  match cs, hl with
  | [c0, c1, c2], _ =>
    simp only [cellsInt] at h0 h1 h2
    obtain ⟨a0, e0, _, w0⟩ := DataW.trod_int Tryz.underlying3 h0
    obtain ⟨a1, e1, _, w1⟩ := DataW.trod_int Tryz.underlying3 h1
    obtain ⟨a2, e2, _, w2⟩ := DataW.trod_int Tryz.underlying3 h2
    simp at e0 e1 e2
    subst e0 e1 e2
    exact ⟨(a0, a1, a2), rfl, w0, w1, w2⟩

set_option maxRecDepth 100000 in
/-- A list of edges that came in. -/
theorem open_edges {H : Type} {enc : TypeId × Value → H} {W : World} {fuel : Nat} {v : Value} {x : DataW H × List MemPlace}
    (h : DataW.trod enc Tryz.prog W 0 (fun _ => true) true fuel 22 [v] = some x) :
    ∃ (a : Option Addr) (c b off : Nat) (es : List E), v = .slice a es.length c ∧ es.length ≤ maxLen ∧ SlAt encE 3 W a b off es ∧ (∀ y ∈ es, wfE y) ∧ es.length ≤ c ∧ c ≤ maxLen := by
  rcases open_slice Tryz.underlying22 h with ⟨hcs, _⟩ | ⟨ad, len, cap, m, n, D, Pls, hcs, _, hl, hm, hmm, _, hi⟩
  · simp at hcs
    subst hcs
    exact ⟨none, 0, 0, 0, [], rfl, by simp, slAt_nil _ _ _ _, by simp, by simp, by simp⟩
  · simp at hcs
    subst hcs
    simp only [if_true] at hmm
    rw [cellsEdge] at hi
    have hex : ∀ i : Nat, ∃ e : E, i < m → wfE e ∧ ∀ j u, (encE e)[j]? = some u → W.cell? (ad.add (i * 3 + j)) = some u := by
      intro i
      by_cases him : i < m
      · obtain ⟨cs', hc, ht⟩ := hi i him
        obtain ⟨e, rfl, hw⟩ := open_edge ht
        obtain ⟨_, hcl, hat⟩ := World.cells?_some hc
        refine ⟨e, fun _ => ⟨hw, fun j u hu => ?_⟩⟩
        have hj : j < 3 := by have := (List.getElem?_eq_some_iff.1 hu).1; simpa [encE] using this
        rw [← Go.Deep.add_add, hat j hj, hu]
      · exact ⟨(0, 0, 0), fun h => absurd h him⟩
    obtain ⟨f, hf⟩ := Classical.axiomOfChoice hex
    obtain ⟨b, off, spot⟩ := ad
    have hcl : 0 < len → spot = none ∧ b < W.heap.size := by
      intro h0
      have hc0 := (hf 0 (by omega)).2 0 _ rfl
      have hspot : spot = none := by simpa [Addr.add] using World.cell?_spot hc0
      subst hspot
      exact ⟨rfl, World.block_lt_of_cell? _ _ hc0⟩
    refine ⟨some ⟨b, off, spot⟩, cap, b, off, (List.range len).map f, by simp, by simp; omega, ⟨fun hp => ?_, fun hp => (hcl (by simpa using hp)).2, fun i y hy j u hu => ?_⟩, ?_, by simp; omega, by omega⟩
    · obtain ⟨rfl, _⟩ := hcl (by simpa using hp); rfl
    · have hil : i < len := by have := (List.getElem?_eq_some_iff.1 hy).1; simpa using this
      obtain ⟨rfl, _⟩ := hcl (by omega)
      have hy' : y = f i := by simp [hil] at hy; exact hy.symm
      subst hy'
      have := (hf i (by omega)).2 j u hu
      rw [Go.WideShapes.add_plain, ← Nat.add_assoc] at this
      exact this
    · intro y hy
      obtain ⟨i, hi', rfl⟩ := List.mem_map.1 hy
      rw [List.mem_range] at hi'
      exact (hf i (by omega)).1

set_option maxRecDepth 100000 in
/-- A system that came in. -/
theorem open_sys {H : Type} {enc : TypeId × Value → H} {W : World} {r : Reach} {b0 : Nat} {v : Value} {d : DataW H} {p : List MemPlace}
    (hv : Value.okWide Tryz.prog W r b0 24 v) (h : DataW.Trod enc Tryz.prog W 0 (fun _ => true) true 24 v d p) :
    ∃ (s : Lts) (a : Option Addr) (c b off : Nat), v = .agg #[.int .i64 s.st, .int .i64 s.lb, .int .i64 s.s0, .slice a s.es.length c] ∧ s.es.length ≤ maxLen ∧ SlAt encE 3 W a b off s.es ∧
      (∀ y ∈ s.es, wfE y) ∧ (Lit.int .i64 s.st).wf = true ∧ (Lit.int .i64 s.lb).wf = true ∧ (Lit.int .i64 s.s0).wf = true ∧ s.es.length ≤ c ∧ c ≤ maxLen := by
  obtain ⟨v0, v1, v2, v3, y0, y1, y2, y3, n, rfl, _, _, h0, h1, h2, h3⟩ := Go.Joins.open_agg4 Tryz.underlying24 (by kernel_rfl) (by kernel_rfl) hv h
  obtain ⟨a0, e0, _, w0⟩ := DataW.trod_int Tryz.underlying3 h0
  obtain ⟨a1, e1, _, w1⟩ := DataW.trod_int Tryz.underlying3 h1
  obtain ⟨a2, e2, _, w2⟩ := DataW.trod_int Tryz.underlying3 h2
  obtain ⟨a, c, b, off, es, rfl, hl, hS, hw, hc1, hc2⟩ := open_edges h3
  simp at e0 e1 e2
  subst e0 e1 e2
  exact ⟨⟨a0, a1, a2, es⟩, a, c, b, off, rfl, hl, hS, hw, w0, w1, w2, hc1, hc2⟩

end Go.Proofs.YtkmljelgogcobaaGreatDoor

namespace Go.Proofs.YtkmljelgogcobaaGreatDoor
open Go.RowKit Pl

theorem check_ok {p : Addr} {s : Lts} (h : s.Right) (a : Option Addr) (b off c : Nat) (w : World) (hG : GErr 0 p w) (hS : SlAt encE 3 w a b off s.es) :
    Calls Tryz.prog 63 #[.agg #[.int .i64 s.st, .int .i64 s.lb, .int .i64 s.s0, .slice a s.es.length c]] w fun e w' => e = .returned .nilIface ∧ Below w.heap.size w w' := by
  refine (check_body s.st s.lb s.s0 a b off c s.es w hG h.head hS).mono ?_
  rintro e w' ⟨h1, h2⟩
  have : s.es.all (fun x => !offB s.st s.lb x) = true := by rw [List.all_eq_true]; intro x hx; simp [h.edges x hx]
  unfold CheckPost at h1
  rw [this] at h1
  exact ⟨h1, h2⟩

theorem check_no {p : Addr} {s : Lts} (h : ¬ s.Right) (a : Option Addr) (b off c : Nat) (w : World) (hG : GErr 0 p w) (hS : SlAt encE 3 w a b off s.es) :
    Calls Tryz.prog 63 #[.agg #[.int .i64 s.st, .int .i64 s.lb, .int .i64 s.s0, .slice a s.es.length c]] w fun e w' =>
      ∃ v, e = .returned v ∧ FaultAt w' v ⟨#[115, 121, 115, 116, 101, 109]⟩ (.iface 248 (.pointer (some p))) ∧ Below w.heap.size w w' := by
  by_cases hh : HeadBad s.st s.lb s.s0 s.es.length
  · exact check_head s.st s.lb s.s0 a s.es.length c w hG hh
  · refine (check_body s.st s.lb s.s0 a b off c s.es w hG hh hS).mono ?_
    rintro e w' ⟨h1, h2⟩
    have : s.es.all (fun x => !offB s.st s.lb x) = false := by
      rw [Bool.eq_false_iff]; intro ha; rw [List.all_eq_true] at ha
      exact h ⟨hh, fun x hx => by simpa using ha x hx⟩
    unfold CheckPost at h1
    rw [this] at h1
    obtain ⟨v, h1, h3⟩ := h1
    exact ⟨v, h1, h3, h2⟩

end Go.Proofs.YtkmljelgogcobaaGreatDoor
