/-
  system.Check: nil of a system that is one, a fault of any other.
  system.with: where steps of a label lead.
-/
import Derived.Test.YtkmljelgogcobaaGreatDoorGBase
import Derived.Test.YtkmljelgogcobaaGreatDoorGGraphA
namespace Go.Proofs.YtkmljelgogcobaaGreatDoor
open Go.RowKit Pl

theorem check_ok {p : Addr} {s : Lts} (h : s.Right) (a : Option Addr) (b off c : Nat) (w : World) (hG : GErr 0 p w) (hS : SlAt encE 3 w a b off s.es) :
    Calls Tryz.prog 63 #[.agg #[.int .i64 s.st, .int .i64 s.lb, .int .i64 s.s0, .slice a s.es.length c]] w fun e w' => e = .returned .nilIface ∧ Below w.heap.size w w' := by
  refine (check_body s.st s.lb s.s0 a b off c s.es w hG h.head hS).mono ?_
  rintro e w' ⟨h1, h2⟩
  have : s.es.all (fun x => !offB s.st s.lb x) = true := by rw [List.all_eq_true]; intro x hx; simp [h.edges x hx]
  unfold CheckPost at h1
  rw [this] at h1
  exact ⟨h1, h2⟩

theorem check_no {p : Addr} {s : Lts} (h : ¬ s.Right) (a : Option Addr) (b off c : Nat) (w : World) (hG : GErr 0 p w) (hS : SlAt encE 3 w a b off s.es) :
    Calls Tryz.prog 63 #[.agg #[.int .i64 s.st, .int .i64 s.lb, .int .i64 s.s0, .slice a s.es.length c]] w fun e w' =>
      ∃ v, e = .returned v ∧ FaultAt w' v ⟨#[115, 121, 115, 116, 101, 109]⟩ (.iface 248 (.pointer (some p))) ∧ Below w.heap.size w w' := by
  by_cases hh : HeadBad s.st s.lb s.s0 s.es.length
  · exact check_head s.st s.lb s.s0 a s.es.length c w hG hh
  · refine (check_body s.st s.lb s.s0 a b off c s.es w hG hh hS).mono ?_
    rintro e w' ⟨h1, h2⟩
    have : s.es.all (fun x => !offB s.st s.lb x) = false := by
      rw [Bool.eq_false_iff]; intro ha; rw [List.all_eq_true] at ha
      exact h ⟨hh, fun x hx => by simpa using ha x hx⟩
    unfold CheckPost at h1
    rw [this] at h1
    obtain ⟨v, h1, h3⟩ := h1
    exact ⟨v, h1, h3, h2⟩

end Go.Proofs.YtkmljelgogcobaaGreatDoor

namespace Go.Proofs.YtkmljelgogcobaaGreatDoor
open Go.RowKit Pl

def fil (label : Int) (ss : List S) : List Value := (ss.filter (fun s => s.1 == label)).map fun s => .int .i64 s.2
theorem fil_snoc (label : Int) (ss : List S) (k : Nat) (h : k < ss.length) : fil label (ss.take (k+1)) = fil label (ss.take k) ++ (if (ss.getD k (0,0)).1 == label then [.int .i64 (ss.getD k (0,0)).2] else []) := by
  rw [List.take_succ_eq_append_getElem h]
  unfold fil
  rw [List.filter_append, List.map_append]
  simp only [List.getD, List.getElem?_eq_getElem h, Option.getD_some]
  by_cases hx : (ss[k].1 == label) = true <;> simp [List.filter, hx]
theorem fil_le (label : Int) (ss : List S) (k : Nat) : (fil label (ss.take k)).length ≤ ss.length := by
  unfold fil; rw [List.length_map]; exact Nat.le_trans (List.length_filter_le _ _) (by simp; omega)

set_option maxRecDepth 100000 in
theorem with_any (a : Option Addr) (b off c : Nat) (ss : List S) (label : Int) (w : World) (hlen : ss.length ≤ 20000)
    (ha : 0 < ss.length → a = some ⟨b, off, none⟩) (hb : b < w.heap.size)
    (h0 : ∀ i, i < ss.length → w.cell? ⟨b, off + i * 2, none⟩ = some (.int .i64 (ss.getD i (0,0)).1))
    (h1 : ∀ i, i < ss.length → w.cell? ⟨b, off + i * 2 + 1, none⟩ = some (.int .i64 (ss.getD i (0,0)).2)) :
    Calls Tryz.prog 60 #[.slice a ss.length c, .int .i64 label] w fun e w' =>
      ∃ v, e = .returned v ∧ w'.ownsRow w.heap.size 3 1 v ((fil label ss).length) (fil label ss) ∧ Below w.heap.size w w' := by
  go_enter Tryz.func60, Tryz.ntmps60
  go_wp2
  go_loopw [5, 10] (fun v i wr => ∃ k : Nat, k ≤ ss.length ∧ i = .int .i64 k ∧ wr.ownsRow w.heap.size 3 1 v ((fil label (ss.take k)).length) (fil label (ss.take k)) ∧ Below w.heap.size w wr)
    (fun _ i _ => ss.length - (intOf i).toNat)
  case atStart => exact ⟨0, Nat.zero_le _, rfl, World.ownsRow_nil _ _ _ _, Below.refl _ _⟩
  case round =>
    obtain ⟨k, hk, rfl, hown, hnx⟩ := hrel
    by_cases hlt : k < ss.length
    · obtain rfl := ha (by omega)
      have hs := fil_snoc label ss k hlt
      obtain ⟨x, hx⟩ : ∃ x, x = ss.getD k (0,0) := ⟨_, rfl⟩
      have hc0 : wr.cell? ⟨b, off + k * 2, none⟩ = some (.int .i64 x.1) := by rw [hx]; exact (hnx.cell (by exact hb)).trans (h0 k hlt)
      have hc1 : wr.cell? ⟨b, off + k * 2 + 1, none⟩ = some (.int .i64 x.2) := by rw [hx]; exact (hnx.cell (by exact hb)).trans (h1 k hlt)
      have hbr : b < wr.heap.size := Nat.lt_of_lt_of_le hb hnx.size
      rw [← hx] at hs
      have hle := fil_le label ss k
      have hsz := hnx.size
      clear h0 h1 hx ha
      generalize fil label (ss.take k) = f at *
      by_cases hxl : (x.1 == label) = true
      · rw [if_pos hxl] at hs
        have HS := Lib.hid hs; clear hs
        go_wp2_with (at_builtin; refine wpList_app rfl _ _ _ rfl rowI ((hnx.alloc hsz _).alloc (by simp; omega) _) (by simp; omega) rfl ((hown.alloc _).alloc _) ⟨wr.heap.size + 1, 0, none⟩ 1 1 [.int .i64 x.2] rfl rfl (cells1 (by simp [go_sem])) (by simp [Value.oneCell']) (by omega) (by unfold maxLen; omega) ?_; intro v' w1 hown1 hb1 _)
        clear hown hnx
        go_roundw
        case rel => exact ⟨k + 1, by omega, by go_num, by rw [HS.out]; simpa using hown1, hb1⟩
        case measure => simp [intOf]; omega
      · rw [if_neg hxl] at hs
        have hxl' : (x.1 == label) = false := by simpa using hxl
        have HS := Lib.hid hs; clear hs
        clear hxl
        go_wp2
        go_roundw
        case rel => exact ⟨k + 1, by omega, by go_num, by rw [HS.out]; simpa using hown.alloc _, hnx.alloc hsz _⟩
        case measure => simp [intOf]; omega
    · clear h0 h1 ha
      go_wp2
      go_ret
      have : k = ss.length := by omega
      subst this
      exact ⟨_, rfl, by simpa using hown, hnx⟩

set_option maxRecDepth 100000 in
theorem with_nil (a : Option Addr) (c : Nat) (label : Int) (w : World) :
    Calls Tryz.prog 60 #[.slice a 0 c, .int .i64 label] w fun e w' =>
      ∃ v, e = .returned v ∧ w'.ownsRow w.heap.size 3 1 v 0 [] ∧ Below w.heap.size w w' := by
  go_enter Tryz.func60, Tryz.ntmps60
  go_wp2
  refine wp_loop_rounds 1 ?_
  rw [rounds_succ]
  go_wp2
  go_ret
  exact ⟨_, rfl, World.ownsRow_nil _ _ _ _, Below.refl _ _⟩

theorem fil_flat (label : Int) (ss : List S) : fil label ss = (((ss.filter (fun s => s.1 == label)).map fun s => s.2)).flatMap encI := by
  unfold fil
  rw [List.flatMap_map]
  induction (ss.filter (fun s => s.1 == label)) with
  | nil => rfl
  | cons x l ih => simp [ih, encI]

/-- Where steps of a label lead. -/
def withL (label : Int) (ss : List S) : List Int := (ss.filter (fun s => s.1 == label)).map fun s => s.2

theorem with_sl {a : Option Addr} {b off c : Nat} {ss : List S} {w : World} (h : SlAt encS 2 w a b off ss) (hlen : ss.length ≤ 20000) (label : Int) :
    Calls Tryz.prog 60 #[.slice a ss.length c, .int .i64 label] w fun e w' =>
      ∃ v, e = .returned v ∧ w'.ownsRow w.heap.size 3 1 v (withL label ss).length ((withL label ss).flatMap encI) ∧ Below w.heap.size w w' := by
  by_cases h0 : 0 < ss.length
  · refine (with_any a b off c ss label w hlen h.ad (h.lt h0) (fun i hi => ?_) (fun i hi => ?_)).mono ?_
    · obtain ⟨x, hx⟩ := getElem?_of_lt hi
      rw [List.getD, hx]; exact h.s0 hx
    · obtain ⟨x, hx⟩ := getElem?_of_lt hi
      rw [List.getD, hx]; exact h.s1 hx
    · rintro e w' ⟨v, rfl, ho, hB⟩
      rw [fil_flat] at ho
      refine ⟨v, rfl, ?_, hB⟩
      have hl : (withL label ss).length = ((withL label ss).flatMap encI).length := by rw [length_flatMap lenI]; omega
      unfold withL at *
      rw [hl]; exact ho
  · have hz : ss = [] := List.eq_nil_of_length_eq_zero (by omega)
    subst hz
    exact with_nil a c label w

end Go.Proofs.YtkmljelgogcobaaGreatDoor
