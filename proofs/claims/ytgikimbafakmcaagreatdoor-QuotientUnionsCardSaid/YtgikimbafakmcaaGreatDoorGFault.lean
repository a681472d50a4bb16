/-
  Lemmas.
-/
import Derived.Test.YtgikimbafakmcaaGreatDoorGPl6
import Derived.Test.YtgikimbafakmcaaGreatDoorGPl1
import Derived.Outline
import Derived.LaidEql
import Derived.Stop.Asserts
import Derived.RowKitTokens
import Derived.Deep.QuietTactic
import Derived.BigQuiet
set_option maxHeartbeats 1000000
set_option maxRecDepth 100000
namespace Go.Proofs.YtgikimbafakmcaaGreatDoor
open Go.RowKit Pl
theorem faultNew_any (s : ByteArray) (t : TypeId) (v : Value) (w : World) : Calls Tryz.prog 21 #[.string s, .iface t v] w fun e w' =>
    e = .returned (.iface 69 (.pointer (some ⟨w.heap.size, 0, none⟩))) /\ w' = w.alloc (.cells #[.string s, .int .i64 0, .int .i64 0, .iface t v] 72) := by
 go_enter Tryz.func21, Tryz.ntmps21
 go_wp2
 go_ret
 exact ⟨rfl, rfl⟩
structure GErr (g : Nat) (p : Addr) (w : World) : Prop where
  lt : g < w.heap.size
  cell : w.cell? ⟨g, 0, none⟩ = some (.iface 270 (.pointer (some p)))
theorem GErr.below {g : Nat} {p : Addr} {w w' : World} (h : GErr g p w) (hB : Below w.heap.size w w') : GErr g p w' :=
  ⟨Nat.lt_of_lt_of_le h.lt hB.size, by rw [hB.cell (p := ⟨g, 0, none⟩) h.lt]; exact h.cell⟩
structure FaultAt (w : World) (v : Value) (layer : ByteArray) (inner : Value) : Prop where
  ex : ∃ b, v = .iface 69 (.pointer (some ⟨b, 0, none⟩)) /\ w.heap[b]? = some (.cells #[.string layer, .int .i64 0, .int .i64 0, inner] 72 (0, 0))
theorem offends_any (st lb s0 : Int) (es : Value) (x : E) (w : World) :
    Calls Tryz.prog 72 #[.agg #[.int .i64 st, .int .i64 lb, .int .i64 s0, es], .agg #[.int .i64 x.1, .int .i64 x.2.1, .int .i64 x.2.2]] w fun e w' =>
      e = .returned (.bool (offB st lb x)) /\ Below w.heap.size w w' := by
 unfold offB
 go_enter Tryz.func72, Tryz.ntmps72
 go_wp2
 all_goals (go_ret; exact ⟨by simp [*]; try omega, ((Below.refl _ _).alloc (Nat.le_refl _) _).alloc (by simp) _⟩)
theorem check_head {p : Addr} (st lb s0 : Int) (a : Option Addr) (n c : Nat) (w : World) (hG : GErr 0 p w) (h : HeadBad st lb s0 n) :
    Calls Tryz.prog 19 #[.agg #[.int .i64 st, .int .i64 lb, .int .i64 s0, .slice a n c]] w fun e w' => ∃ v, e = .returned v /\ FaultAt w' v ⟨#[115, 121, 115, 116, 101, 109]⟩ (.iface 270 (.pointer (some p))) /\ Below w.heap.size w w' := by
 unfold HeadBad at h
 have hg := hG.cell
 have hlt := hG.lt
 go_enter Tryz.func19, Tryz.ntmps19
 go_wp2_with (go_at_call 21; refine (faultNew_any _ _ _ _).mono ?_; rintro e w1 ⟨rfl, rfl⟩)
 all_goals (go_ret; exact ⟨_, rfl, ⟨w.heap.size + 1, rfl, by simpa using heap_alloc_new (w.alloc (.cells #[.int .i64 st, .int .i64 lb, .int .i64 s0, .slice a n c] 24)) (.cells #[.string ⟨#[115, 121, 115, 116, 101, 109]⟩, .int .i64 0, .int .i64 0, .iface 270 (.pointer (some p))] 72)⟩, ((Below.refl _ _).alloc (Nat.le_refl _) _).alloc (by simp) _⟩)
def CheckPost (st lb : Int) (xs : List E) (p : Addr) (e : Ending) (w' : World) : Prop :=
  if xs.all (fun x => !offB st lb x) then e = .returned .nilIface else ∃ v, e = .returned v /\ FaultAt w' v ⟨#[115, 121, 115, 116, 101, 109]⟩ (.iface 270 (.pointer (some p)))
theorem check_body {p : Addr} (st lb s0 : Int) (a : Option Addr) (b off c : Nat) (xs : List E) (w : World) (hG : GErr 0 p w) (h : ¬ HeadBad st lb s0 xs.length) (hS : SlAt encE 3 w a b off xs) :
    Calls Tryz.prog 19 #[.agg #[.int .i64 st, .int .i64 lb, .int .i64 s0, .slice a xs.length c]] w fun e w' =>
      CheckPost st lb xs p e w' /\ Below w.heap.size w w' := by
 unfold HeadBad at h
 have hg := hG.cell
 have hlt := hG.lt
 obtain ⟨h1, h2, h3, h4, h5, h6, h7⟩ : 0 <= st /\ st <= 1000 /\ 1 <= lb /\ lb <= 201 /\ 0 <= s0 /\ (s0 = 0 ∨ s0 < st) /\ (xs.length : Int) <= 10000 := by omega
 clear h
 obtain ⟨C, hC⟩ : ∃ C, C = Obj.cells #[.int .i64 st, .int .i64 lb, .int .i64 s0, .slice a xs.length c] 24 := ⟨_, rfl⟩
 obtain ⟨F, hF⟩ : ∃ F, F = Obj.cells #[.string ⟨#[115, 121, 115, 116, 101, 109]⟩, .int .i64 0, .int .i64 0, .iface 270 (.pointer (some p))] 72 := ⟨_, rfl⟩
 have HC := Lib.hid hC; have HF := Lib.hid hF
 clear hC hF
 go_enter Tryz.func19, Tryz.ntmps19
 go_wp2_with (go_at_call 21; refine (faultNew_any _ _ _ _).mono ?_; rintro e w1 ⟨rfl, rfl⟩)
 all_goals (
 rw [<- HC.out, <- HF.out]
 go_loopw [5, 54] (fun _ i wr => ∃ k : Nat, k <= xs.length /\ i = .int .i64 k /\ (∀ j x, j < k -> xs[j]? = some x -> offB st lb x = false) /\ Below (w.heap.size + 2) ((w.alloc C).alloc F) wr)
   (fun _ i _ => xs.length - (intOf i).toNat)
 case atStart => exact ⟨0, Nat.zero_le _, rfl, by intro j x hj; omega, Below.refl _ _⟩
 case round => (
 obtain ⟨k, hk, rfl, hz, hB⟩ := hrel
 have HZ := Lib.hid hz; clear hz
 have hsz : w.heap.size + 2 <= wr.heap.size := by simpa using hB.size
 have q0 : wr.heap[w.heap.size]? = some C := by
   rw [hB.block _ (by omega), Below.heap_alloc _ _ _ (by simp), heap_alloc_new]
 have q1 : wr.heap[w.heap.size + 1]? = some F := by
   rw [hB.block _ (by omega)]; simpa using heap_alloc_new (w.alloc C) F
 rw [HC.out] at q0; rw [HF.out] at q1
 have s0' : wr.cell? ⟨w.heap.size, 0, none⟩ = some (.int .i64 st) := by simp [World.cell?, q0]
 have s1' : wr.cell? ⟨w.heap.size, 1, none⟩ = some (.int .i64 lb) := by simp [World.cell?, q0]
 have s2' : wr.cell? ⟨w.heap.size, 2, none⟩ = some (.int .i64 s0) := by simp [World.cell?, q0]
 have s3' : wr.cell? ⟨w.heap.size, 3, none⟩ = some (.slice a xs.length c) := by simp [World.cell?, q0]
 have Q1 := Lib.hid q1
 have hBw : Below w.heap.size w wr := (((Below.refl _ _).alloc (Nat.le_refl _) C).alloc (by simp) F).trans (hB.mono (by omega))
 have hltr : w.heap.size < wr.heap.size := by omega
 clear q0 q1
 by_cases hlt2 : k < xs.length
 · (
 obtain ⟨x, hx⟩ := getElem?_of_lt hlt2
 obtain rfl := hS.ad (by omega)
 have hS' := hS.below hBw (Nat.le_refl _)
 have c0 := hS'.e0 hx; have c1 := hS'.e1 hx; have c2 := hS'.e2 hx
 have hbl := hS'.lt (by omega)
 have HX := Lib.hid hx
 have HS := Lib.hid hS
 clear hx hS hS' hg
 by_cases ho : offB st lb x = true
 · (
 have HO := Lib.hid ho
 go_wp2_with (go_at_call 72; refine (offends_any st lb s0 _ x _).mono ?_; rintro e w1 ⟨rfl, hB1⟩)
 go_ret
 have hall : xs.all (fun x => !offB st lb x) = false := by
   rw [List.all_eq_false]
   exact ⟨x, List.mem_of_getElem? HX.out, by simp [HO.out]⟩
 have hB2 := (hB.alloc hsz _).trans (hB1.mono (by simp; omega))
 refine ⟨by unfold CheckPost; rw [hall]; exact ⟨_, rfl, ⟨w.heap.size + 1, rfl, by rw [hB2.block _ (by omega), <- HF.out]; simpa using heap_alloc_new (w.alloc C) F⟩⟩, (((Below.refl _ _).alloc (Nat.le_refl _) C).alloc (by simp) F).trans (hB2.mono (by omega))⟩)
 · (
 have ho' : offB st lb x = false := by simpa using ho
 have HO := Lib.hid ho'
 clear ho
 go_wp2_with (go_at_call 72; refine (offends_any st lb s0 _ x _).mono ?_; rintro e w1 ⟨rfl, hB1⟩)
 go_roundw
 case rel => exact ⟨k + 1, by omega, by go_num, by (
 intro j y hj hy
 by_cases hjk : j = k
 · subst hjk
   rw [HX.out] at hy
   simp at hy; subst hy
   exact HO.out
 · exact HZ.out j y (by omega) hy), (hB.alloc hsz _).trans (hB1.mono (by simp; omega))⟩
 case measure => simp [intOf]; omega))
 · (
 clear hS hg
 go_wp2
 go_ret
 have hall : xs.all (fun x => !offB st lb x) = true := by (
 rw [List.all_eq_true]
 intro x hx
 obtain ⟨j, hj, rfl⟩ := List.getElem_of_mem hx
 simp [HZ.out j _ (by omega) (List.getElem?_eq_getElem hj)])
 exact ⟨by unfold CheckPost; rw [hall]; rfl, hBw⟩)))
end Go.Proofs.YtgikimbafakmcaaGreatDoor
namespace Go.Proofs.YtgikimbafakmcaaGreatDoor
open Go.RowKit Pl
theorem heap_alloc_at (w : World) (o : Obj) (g : Nat) (h : g = w.heap.size) : (w.alloc o).heap[g]? = some o := by subst h; exact heap_alloc_new w o
theorem size_setCell (w : World) (p : Addr) (v : Value) : (w.setCell p v).heap.size = w.heap.size := by simp [World.setCell]
theorem own_below {w w' : World} {base : Nat} {e : TypeId} {k n : Nat} {v : Value} {xs : List Value} (h : w.ownsRow base e k v n xs) (hB : Below w.heap.size w w') : w'.ownsRow base e k v n xs := by
 refine ⟨h.1, ?_⟩
 rcases h.2 with h2 | ⟨g, cap, cur, hv, hb, hg, r⟩
 · exact .inl h2
 · exact .inr ⟨g, cap, cur, hv, hb, by rw [hB.block _ (Array.getElem?_eq_some_iff.1 hg).1]; exact hg, r⟩
theorem SlAt.setOther {α : Type} {enc : α -> List Value} {k : Nat} {w : World} {a : Option Addr} {b off : Nat} {xs : List α} (h : SlAt enc k w a b off xs) {p : Addr} (hp : 0 < xs.length -> b ≠ p.block) (v : Value) : SlAt enc k (w.setCell p v) a b off xs :=
  ⟨h.ad, fun hl => by have := h.lt hl; simpa [World.setCell] using this, fun i x hx j u hu => by
    have hl : 0 < xs.length := by have := (List.getElem?_eq_some_iff.1 hx).1; omega
    rw [World.cell?_of_block (w := w) (a := ⟨b, off + i * k + j, none⟩) (Below.heap_setCell _ _ _ _ (hp hl))]
    exact h.cell i x hx j u hu⟩
theorem SlAt.alloc {α : Type} {enc : α -> List Value} {k : Nat} {w : World} {a : Option Addr} {b off : Nat} {xs : List α} (h : SlAt enc k w a b off xs) (o : Obj) : SlAt enc k (w.alloc o) a b off xs :=
  h.below ((Below.refl w.heap.size w).alloc (Nat.le_refl _) o) (Nat.le_refl _)
theorem heap_set2 {w : World} {g i j : Nat} {c : Array Value} {e : TypeId} {a b : Value} (h : w.heap[g]? = some (.cells c e (0, 0))) :
    ((w.setCell ⟨g, i, none⟩ a).setCell ⟨g, j, none⟩ b).heap[g]? = some (.cells ((c.setIfInBounds i a).setIfInBounds j b) e (0, 0)) :=
  heap_setCell_same _ g j _ e b (heap_setCell_same w g i c e a h)
theorem own_mono {w : World} {base base' : Nat} {e : TypeId} {k : Nat} {v : Value} {n : Nat} {xs : List Value} (h : w.ownsRow base e k v n xs) (hb : base' <= base) : w.ownsRow base' e k v n xs := by
 refine ⟨h.1, ?_⟩
 rcases h.2 with h2 | ⟨g, cap, cur, hv, hg, r⟩
 · exact .inl h2
 · exact .inr ⟨g, cap, cur, hv, Nat.le_trans hb hg, r⟩
theorem bdrew {w0 w : World} {B n : Nat} (h : Below B w0 w) : Below B w0 (w.drewN n) := ⟨h.os, h.tape, h.output, h.size, h.block⟩
end Go.Proofs.YtgikimbafakmcaaGreatDoor
namespace Go.Proofs.YtgikimbafakmcaaGreatDoor
open Go.RowKit Go.Extern.Stop Go.Stop Go.Extern Pl
/-! closed facts: what TypeOf(target).Comparable() gives at such a target; what the assertions find -/
theorem isTypeOf (v : Value) (w : World) : (callFunc 105 #[.iface 270 v]).run Tryz.prog w = .ok (.value (.iface 184 (.agg #[.pointer (some ⟨20, 270, none⟩)]))) w := by kernel_rfl
theorem isComparable (w : World) : (callFunc 227 #[.agg #[.pointer (some ⟨20, 270, none⟩)]]).run Tryz.prog w = .ok (.value (.bool true)) w := by kernel_rfl
theorem isMethodComparable (v : Value) (w : World) : (Go.method 402 184 v "Comparable").run Tryz.prog w = .ok (227, v) w := by kernel_rfl
theorem isComp : (Tryz.prog.info? 270).map (·.comparable) = some true := by kernel_rfl
theorem isSize : (Tryz.prog.info? 290).map (·.size) = some 1 := by kernel_rfl
theorem noIsE (v : Value) (xT : TypeId) (w : World) : (Instr.typeAssert (.iface 270 v) xT 196 true).run Tryz.prog w = .ok (.tuple #[.nilIface, .bool false]) w := run_typeAssert_lacksB Tryz.underlying196 (by kernel_rfl) (by kernel_rfl) v xT w
theorem noUnwrapE (v : Value) (xT : TypeId) (w : World) : (Instr.typeAssert (.iface 270 v) xT 191 true).run Tryz.prog w = .ok (.tuple #[.nilIface, .bool false]) w := run_typeAssert_lacksB Tryz.underlying191 (by kernel_rfl) (by kernel_rfl) v xT w
theorem noUnwrapsE (v : Value) (xT : TypeId) (w : World) : (Instr.typeAssert (.iface 270 v) xT 193 true).run Tryz.prog w = .ok (.tuple #[.nilIface, .bool false]) w := run_typeAssert_lacksB Tryz.underlying193 (by kernel_rfl) (by kernel_rfl) v xT w
theorem noIsW (v : Value) (xT : TypeId) (w : World) : (Instr.typeAssert (.iface 69 v) xT 196 true).run Tryz.prog w = .ok (.tuple #[.nilIface, .bool false]) w := run_typeAssert_lacksB Tryz.underlying196 (by kernel_rfl) (by kernel_rfl) v xT w
theorem hasUnwrapW (v : Value) (xT : TypeId) (w : World) : (Instr.typeAssert (.iface 69 v) xT 191 true).run Tryz.prog w = .ok (.tuple #[.iface 69 v, .bool true]) w := run_typeAssert_hasB Tryz.underlying191 (by kernel_rfl) v xT w
theorem methodUnwrap (v : Value) (w : World) : (Go.method 402 69 v "Unwrap").run Tryz.prog w = .ok (220, v) w := by kernel_rfl
theorem is_fault_same (pb : Nat) (b : Addr) (w : World) (h1 : w.cell? ⟨pb, 3, none⟩ = some (.iface 270 (.pointer (some b)))) :
    Calls Tryz.prog 75 #[.iface 69 (.pointer (some ⟨pb, 0, none⟩)), .iface 270 (.pointer (some b))] w fun e w' => e = .returned (.bool true) /\ w = w' := by
 obtain ⟨i, hi, hcmp⟩ := Option.map_eq_some_iff.1 isComp
 obtain ⟨j, hj, hjs⟩ := Option.map_eq_some_iff.1 isSize
 have tT := isTypeOf
 have cT := isComparable
 have mR := isMethodComparable
 have nE := noIsE
 have uE := noUnwrapE
 have vE := noUnwrapsE
 have nW := noIsW
 have uW := hasUnwrapW
 have mU := methodUnwrap
 have heq := run_eql_iface_ptr_same (P := Tryz.prog) w b Tryz.underlying46 Tryz.underlying270 hi hcmp hj
 have hty := run_eql_iface_types (P := Tryz.prog) 69 270 (.pointer (some ⟨pb, 0, none⟩)) (.pointer (some b)) Tryz.underlying46 (by decide) w
 go_enter Tryz.func75, Tryz.ntmps75
 go_wp2
 refine wp_loop_rounds 2 ?_
 rw [rounds_succ]
 go_wp2
 rw [rounds_succ]
 go_wp2
 go_ret
 exact ⟨rfl, rfl⟩
theorem is_fault_other (pb : Nat) (b a : Addr) (ca cb : Array Value) (ta tb : TypeId) (w : World) (h1 : w.cell? ⟨pb, 3, none⟩ = some (.iface 270 (.pointer (some a)))) (hne : a ≠ b) (ha : w.heap[a.block]? = some (.cells ca ta (0, 0))) (hb : w.heap[b.block]? = some (.cells cb tb (0, 0))) :
    Calls Tryz.prog 75 #[.iface 69 (.pointer (some ⟨pb, 0, none⟩)), .iface 270 (.pointer (some b))] w fun e w' => e = .returned (.bool false) /\ w = w' := by
 obtain ⟨i, hi, hcmp⟩ := Option.map_eq_some_iff.1 isComp
 obtain ⟨j, hj, hjs⟩ := Option.map_eq_some_iff.1 isSize
 have tT := isTypeOf
 have cT := isComparable
 have mR := isMethodComparable
 have nE := noIsE
 have uE := noUnwrapE
 have vE := noUnwrapsE
 have nW := noIsW
 have uW := hasUnwrapW
 have mU := methodUnwrap
 have heq := run_eql_iface_ptr_other (P := Tryz.prog) w Tryz.underlying46 Tryz.underlying270 hi hcmp hj (by rw [hjs]; decide) hne ha hb
 have hty := run_eql_iface_types (P := Tryz.prog) 69 270 (.pointer (some ⟨pb, 0, none⟩)) (.pointer (some b)) Tryz.underlying46 (by decide) w
 go_enter Tryz.func75, Tryz.ntmps75
 go_wp2
 refine wp_loop_rounds 2 ?_
 rw [rounds_succ]
 go_wp2
 rw [rounds_succ]
 go_wp2
 go_ret
 exact ⟨rfl, rfl⟩
end Go.Proofs.YtgikimbafakmcaaGreatDoor
namespace Go.Proofs.YtgikimbafakmcaaGreatDoor
open Go.RowKit Pl
theorem slAt_flat {α : Type} {enc : α -> List Value} {k : Nat} {w : World} {a : Option Addr} {b off : Nat} {xs : List α} (hk : ∀ x, (enc x).length = k) (h : SlAt enc k w a b off xs) (j : Nat) (u : Value) (hu : (xs.flatMap enc)[j]? = some u) :
    w.cell? ((⟨b, off, none⟩ : Addr).add j) = some u := by
 have hj := (List.getElem?_eq_some_iff.1 hu).1
 rw [length_flatMap hk] at hj
 have hk0 : 0 < k := by (
 rcases Nat.eq_zero_or_pos k with rfl | h
 · simp at hj
 · exact h)
 have hi : j / k < xs.length := by rw [Nat.div_lt_iff_lt_mul hk0]; exact hj
 obtain ⟨x, hx⟩ := getElem?_of_lt hi
 have hm : j % k < (enc x).length := by rw [hk]; exact Nat.mod_lt _ hk0
 have h1 := getElem?_flatMap hk xs (j / k) x hx (j % k) _ (List.getElem?_eq_getElem hm)
 rw [show j / k * k + j % k = j from Nat.div_add_mod' j k] at h1
 rw [hu] at h1
 have h2 := h.cell (j / k) x hx (j % k) u (by rw [List.getElem?_eq_getElem hm, <- h1])
 rw [show off + j / k * k + j % k = off + j by rw [Nat.add_assoc, Nat.div_add_mod']] at h2
 have hadd : (⟨b, off, none⟩ : Addr).add j = ⟨b, off + j, none⟩ := by unfold Addr.add; split <;> simp_all
 rw [hadd]; exact h2
theorem cell_alloc_of {w : World} {o : Obj} {a : Addr} {u : Value} (h : w.cell? a = some u) : (w.alloc o).cell? a = some u := by
 rw [World.cell?_alloc_old _ _ _ (Nat.ne_of_lt (World.block_lt_of_cell? _ _ h))]; exact h
theorem cloneE_any {a : Option Addr} {b off c : Nat} {xs : List E} {w : World} (h : SlAt encE 3 w a b off xs) (hl : xs.length <= 1000000) :
    Calls Tryz.prog 22 #[.slice a xs.length c] w fun e w' => ∃ v, e = .returned v /\ w'.ownsRow w.heap.size 57 3 v xs.length (xs.flatMap encE) /\ Below w.heap.size w w' := by
 cases a with
 | none =>
   have hx : xs = [] := by
     cases xs with
     | nil => rfl
     | cons x l => have := h.ad (by simp); cases this
   subst hx
   have heq := fun (w : World) => Lib.run_eql_slice_nil (P := Tryz.prog) w 22 57 none 0 c 0 0 Tryz.underlying22
   clear h
   go_enter Tryz.func22, Tryz.ntmps22
   go_wp2
   go_ret
   exact ⟨_, rfl, World.ownsRow_nil _ _ _ _, Below.refl _ _⟩
 | some ad =>
   have heq := fun (w : World) => Lib.run_eql_slice_nil (P := Tryz.prog) w 22 57 (some ad) xs.length c 0 0 Tryz.underlying22
   have hnews : ∀ j u, (xs.flatMap encE)[j]? = some u -> w.cell? (ad.add j) = some u := by
     intro j u hu
     have hj := (List.getElem?_eq_some_iff.1 hu).1
     rw [length_flatMap lenE] at hj
     have hp : 0 < xs.length := by cases xs <;> simp at *
     have := h.ad hp
     simp at this; subst this
     exact slAt_flat lenE h j u hu
   have hlen : (xs.flatMap encE).length = xs.length * 3 := length_flatMap lenE xs
   have h1 : ∀ u ∈ xs.flatMap encE, u.oneCell' = true := by
     intro u hu
     obtain ⟨x, _, hx⟩ := List.mem_flatMap.1 hu
     simp [encE] at hx
     rcases hx with rfl | rfl | rfl <;> rfl
   have HN := Lib.hid hnews; have HL := Lib.hid hlen; have H1 := Lib.hid h1
   clear h hnews hlen h1
   generalize xs.flatMap encE = news at *
   go_enter Tryz.func22, Tryz.ntmps22
   go_wp2_with (at_builtin; refine wpList_app rfl _ _ _ rfl rowE ((Below.refl w.heap.size w).alloc (Nat.le_refl _) _) (by simp) rfl (World.ownsRow_made w #[] 0 (Nat.le_refl _) (by decide) (by simp)) ad xs.length c news rfl HL.out (fun j u hu => cell_alloc_of (HN.out j u hu)) H1.out (by omega) (by unfold maxLen; omega) ?_; intro v' w1 hown1 hb1 _)
   go_ret
   exact ⟨_, rfl, by simpa using hown1, hb1⟩
end Go.Proofs.YtgikimbafakmcaaGreatDoor
namespace Go.Proofs.YtgikimbafakmcaaGreatDoor
open Go.RowKit Pl
theorem eqlE (x y : E) (w : World) : (binOp .eql 57 (.agg #[.int .i64 x.1, .int .i64 x.2.1, .int .i64 x.2.2]) (.agg #[.int .i64 y.1, .int .i64 y.2.1, .int .i64 y.2.2])).run Tryz.prog w = .ok (.bool (decide (x = y))) w := by
 have u3 := Tryz.underlying3
 have a3 := Tryz.isAgg3
 have z3 := Tryz.sizeOf3
 have hS : Tryz.prog.underlying 57 = some (.struct (Tryz.prog.fieldsOf 57)) := by kernel_rfl
 have hp : Tryz.prog.stoodInHeld 57 = false := by kernel_rfl
 rw [run_eql_struct, show (10000 : Nat) = 9999 + 1 from rfl, run_equalIn_agg w 9999 57 _ _ hS hp]
 simp only [Program.fieldsOf, Tryz.underlying57]
 go_simp
 obtain ⟨x1, x2, x3⟩ := x; obtain ⟨y1, y2, y3⟩ := y
 by_cases h1 : x1 = y1 <;> by_cases h2 : x2 = y2 <;> by_cases h3 : x3 = y3 <;> simp [h1, h2, h3]
theorem neqE (x y : E) (w : World) : (binOp .neq 57 (.agg #[.int .i64 x.1, .int .i64 x.2.1, .int .i64 x.2.2]) (.agg #[.int .i64 y.1, .int .i64 y.2.1, .int .i64 y.2.2])).run Tryz.prog w = .ok (.bool (!decide (x = y))) w := by
 have h := eqlE x y w
 rw [run_eql_struct] at h
 rw [run_neq_struct]
 cases hr : (Op.equalIn 10000 57 (.agg #[.int .i64 x.1, .int .i64 x.2.1, .int .i64 x.2.2]) (.agg #[.int .i64 y.1, .int .i64 y.2.1, .int .i64 y.2.2])).run Tryz.prog w with
 | ok b w' => rw [hr] at h; simp [Result.andThen] at h ⊢; exact ⟨h.1, h.2⟩
 | halt b w' => rw [hr] at h; simp [Result.andThen] at h
theorem guardE : Tryz.prog.eqGuardType Tryz.prog.depth 57 = false := by kernel_rfl
section
variable {α : Type} {enc : α -> List Value} {k : Nat} {w : World} {base g n cap : Nat} {e : TypeId} {xs : List α}
theorem slAt_row (hk : ∀ x, (enc x).length = k) (h : w.ownsRow base e k (.slice (some ⟨g, 0, none⟩) n cap) xs.length (xs.flatMap enc)) : SlAt enc k w (some ⟨g, 0, none⟩) g 0 xs := by
 obtain ⟨a, c, b, hv, _, _, hs, _⟩ := slAt_own hk h
 simp only [Value.slice.injEq] at hv
 obtain ⟨rfl, _, _⟩ := hv
 by_cases h0 : 0 < xs.length
 · have := hs.ad h0
   simp at this; subst this
   exact hs
 · have : xs = [] := List.eq_nil_of_length_eq_zero (by omega)
   subst this
   exact slAt_nil _ _ _ _
theorem flat_set (hk : ∀ x, (enc x).length = k) : ∀ (xs : List α) (i : Nat) (x : α), i < xs.length -> (xs.set i x).flatMap enc = (xs.flatMap enc).take (i * k) ++ enc x ++ (xs.flatMap enc).drop (i * k + k)
  | [], i, x, h => by simp at h
  | y :: xs, 0, x, _ => by
    simp only [List.set_cons_zero, List.flatMap_cons, Nat.zero_mul, List.take_zero, List.nil_append, Nat.zero_add]
    rw [List.drop_append_of_le_length (by rw [hk]; omega), List.drop_of_length_le (by rw [hk]; omega), List.nil_append]
  | y :: xs, i + 1, x, h => by
    simp only [List.set_cons_succ, List.flatMap_cons]
    rw [flat_set hk xs i x (by simpa using h)]
    rw [Nat.add_mul, Nat.one_mul, List.take_append, List.drop_append, hk]
    rw [List.take_of_length_le (l := enc y) (by rw [hk]; omega), List.drop_of_length_le (l := enc y) (by rw [hk]; omega)]
    rw [show i * k + k - k = i * k by omega, show i * k + k + k - k = i * k + k by omega]
    simp
end
theorem row_frozen {w : World} {base g n m cap k : Nat} {e : TypeId} {xs : List Value} (h : w.ownsRow base e k (.slice (some ⟨g, 0, none⟩) n cap) m xs) (j : Nat) : w.frozen? ⟨g, j, none⟩ = false := by
 rcases h.2 with ⟨h', _⟩ | ⟨g', cap', cur, h', hb, hg, hnc, hcm, hcs, htake⟩
 · simp at h'
 · simp only [Value.slice.injEq, Option.some.injEq, Addr.mk.injEq, and_true] at h'
   obtain ⟨rfl, rfl, rfl⟩ := h'
   simp [World.frozen?, hg]
theorem set3 {l : List Value} {i : Nat} {a b c : Value} (h : i * 3 + 3 <= l.length) : ((l.set (i * 3) a).set (i * 3 + 1) b).set (i * 3 + 2) c = l.take (i * 3) ++ [a, b, c] ++ l.drop (i * 3 + 3) := by
 apply List.ext_getElem?
 intro j
 simp only [List.getElem?_set, List.length_set, List.append_assoc]
 by_cases h1 : j < i * 3
 · rw [if_neg (by omega), if_neg (by omega), if_neg (by omega), List.getElem?_append_left (by simp; omega), List.getElem?_take, if_pos h1]
 · (
 rw [List.getElem?_append_right (by simp; omega)]
 simp only [List.length_take, Nat.min_eq_left (show i * 3 <= l.length by omega)]
 by_cases h2 : j = i * 3
 · subst h2; rw [if_neg (by omega), if_neg (by omega), if_pos rfl, if_pos (by omega)]; simp
 · (
 by_cases h3 : j = i * 3 + 1
 · subst h3; rw [if_neg (by omega), if_pos rfl, if_pos (by omega)]; rw [show i * 3 + 1 - i * 3 = 1 by omega]; rfl
 · (
 by_cases h4 : j = i * 3 + 2
 · subst h4; rw [if_pos rfl, if_pos (by omega), show i * 3 + 2 - i * 3 = 2 by omega]; rfl
 · rw [if_neg (by omega), if_neg (by omega), if_neg (by omega)]
   rw [show j - i * 3 = (j - (i * 3 + 3)) + 1 + 1 + 1 by omega]
   simp only [List.cons_append, List.nil_append, List.getElem?_cons_succ, List.getElem?_drop]
   congr 1; omega)))
theorem ownE_set {w : World} {base g n cap : Nat} {e : TypeId} {xs : List E} (h : w.ownsRow base e 3 (.slice (some ⟨g, 0, none⟩) n cap) xs.length (xs.flatMap encE)) (hn : n = xs.length) (i : Nat) (x : E) (hi : i < xs.length) :
    (((w.setCell ⟨g, i * 3, none⟩ (.int .i64 x.1)).setCell ⟨g, i * 3 + 1, none⟩ (.int .i64 x.2.1)).setCell ⟨g, i * 3 + 2, none⟩ (.int .i64 x.2.2)).ownsRow base e 3 (.slice (some ⟨g, 0, none⟩) n cap) (xs.set i x).length ((xs.set i x).flatMap encE) := by
 subst hn
 have h1 := ((h.stored (i * 3) (.int .i64 x.1)).1.stored (i * 3 + 1) (.int .i64 x.2.1)).1.stored (i * 3 + 2) (.int .i64 x.2.2)
 rw [set3 (by rw [length_flatMap lenE]; omega)] at h1
 replace h1 := h1.1
 rw [flat_set lenE xs i x hi, List.length_set]
 exact h1
theorem below_set3 {w0 w : World} {B g i : Nat} {a b c : Value} (h : Below B w0 w) (hg : B <= g) : Below B w0 (((w.setCell ⟨g, i, none⟩ a).setCell ⟨g, i + 1, none⟩ b).setCell ⟨g, i + 2, none⟩ c) :=
  ((h.setCell hg _).setCell hg _).setCell hg _
end Go.Proofs.YtgikimbafakmcaaGreatDoor
