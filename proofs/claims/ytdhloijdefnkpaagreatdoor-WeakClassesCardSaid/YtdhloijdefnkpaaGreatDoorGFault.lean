/-
  The errors: the package-level ones in memory; fault.New; system.offends, system.Check.
  errors.Is over faults: a fault of a layer wraps a package-level error; api.Code.
  Rows of lists, each the call's own: a row of slices that grow one by one; appends that say where the new slice lies.
-/
import Derived.Test.YtdhloijdefnkpaaGreatDoorGBrL
import Derived.Test.YtdhloijdefnkpaaGreatDoorGPl2
import Derived.Outline
import Derived.LaidEql
import Derived.Stop.Asserts
import Derived.RowKitTokens
import Derived.Deep.OwnRows
namespace Go.Proofs.YtdhloijdefnkpaaGreatDoor
open Go.RowKit Pl

theorem faultNew_any (s : ByteArray) (t : TypeId) (v : Value) (w : World) : Calls Tryz.prog 33 #[.string s, .iface t v] w fun e w' =>
    e = .returned (.iface 73 (.pointer (some ⟨w.heap.size, 0, none⟩))) ∧ w' = w.alloc (.cells #[.string s, .int .i64 0, .int .i64 0, .iface t v] 76) := by
  go_enter Tryz.func33, Tryz.ntmps33
  go_wp2
  go_ret
  exact ⟨rfl, rfl⟩

/-- A package-level error: a pointer. -/
structure GErr (g : Nat) (p : Addr) (w : World) : Prop where
  lt : g < w.heap.size
  cell : w.cell? ⟨g, 0, none⟩ = some (.iface 285 (.pointer (some p)))

theorem GErr.below {g : Nat} {p : Addr} {w w' : World} (h : GErr g p w) (hB : Below w.heap.size w w') : GErr g p w' :=
  ⟨Nat.lt_of_lt_of_le h.lt hB.size, by rw [hB.cell (p := ⟨g, 0, none⟩) h.lt]; exact h.cell⟩

/-- A fault of a layer, without a place. -/
structure FaultAt (w : World) (v : Value) (layer : ByteArray) (inner : Value) : Prop where
  ex : ∃ b, v = .iface 73 (.pointer (some ⟨b, 0, none⟩)) ∧ w.heap[b]? = some (.cells #[.string layer, .int .i64 0, .int .i64 0, inner] 76 (0, 0))

theorem offends_any (st lb s0 : Int) (es : Value) (x : E) (w : World) :
    Calls Tryz.prog 78 #[.agg #[.int .i64 st, .int .i64 lb, .int .i64 s0, es], .agg #[.int .i64 x.1, .int .i64 x.2.1, .int .i64 x.2.2]] w fun e w' =>
      e = .returned (.bool (offB st lb x)) ∧ Below w.heap.size w w' := by
  unfold offB
  go_enter Tryz.func78, Tryz.ntmps78
  go_wp2
  all_goals (go_ret; exact ⟨by simp [*]; try omega, ((Below.refl _ _).alloc (Nat.le_refl _) _).alloc (by simp) _⟩)

set_option maxRecDepth 100000 in
set_option maxHeartbeats 1000000 in
theorem check_head {p : Addr} (st lb s0 : Int) (a : Option Addr) (n c : Nat) (w : World) (hG : GErr 1 p w) (h : HeadBad st lb s0 n) :
    Calls Tryz.prog 42 #[.agg #[.int .i64 st, .int .i64 lb, .int .i64 s0, .slice a n c]] w fun e w' => ∃ v, e = .returned v ∧ FaultAt w' v ⟨#[115, 121, 115, 116, 101, 109]⟩ (.iface 285 (.pointer (some p))) ∧ Below w.heap.size w w' := by
  unfold HeadBad at h
  have hg := hG.cell
  have hlt := hG.lt
  go_enter Tryz.func42, Tryz.ntmps42
  go_wp2_with (go_at_call 33; refine (faultNew_any _ _ _ _).mono ?_; rintro e w1 ⟨rfl, rfl⟩)
  all_goals (go_ret; exact ⟨_, rfl, ⟨w.heap.size + 1, rfl, by simpa using heap_alloc_new (w.alloc (.cells #[.int .i64 st, .int .i64 lb, .int .i64 s0, .slice a n c] 24)) (.cells #[.string ⟨#[115, 121, 115, 116, 101, 109]⟩, .int .i64 0, .int .i64 0, .iface 285 (.pointer (some p))] 76)⟩, ((Below.refl _ _).alloc (Nat.le_refl _) _).alloc (by simp) _⟩)

/-- What system.Check answers where the head is right. -/
def CheckPost (st lb : Int) (xs : List E) (p : Addr) (e : Ending) (w' : World) : Prop :=
  if xs.all (fun x => !offB st lb x) then e = .returned .nilIface else ∃ v, e = .returned v ∧ FaultAt w' v ⟨#[115, 121, 115, 116, 101, 109]⟩ (.iface 285 (.pointer (some p)))

set_option maxRecDepth 100000 in
set_option maxHeartbeats 1000000 in
/-- system.Check, the head of the system being right. -/
theorem check_body {p : Addr} (st lb s0 : Int) (a : Option Addr) (b off c : Nat) (xs : List E) (w : World) (hG : GErr 1 p w) (h : ¬ HeadBad st lb s0 xs.length) (hS : SlAt encE 3 w a b off xs) :
    Calls Tryz.prog 42 #[.agg #[.int .i64 st, .int .i64 lb, .int .i64 s0, .slice a xs.length c]] w fun e w' =>
      CheckPost st lb xs p e w' ∧ Below w.heap.size w w' := by
  unfold HeadBad at h
  have hg := hG.cell
  have hlt := hG.lt
  obtain ⟨h1, h2, h3, h4, h5, h6, h7⟩ : 0 ≤ st ∧ st ≤ 1000 ∧ 1 ≤ lb ∧ lb ≤ 201 ∧ 0 ≤ s0 ∧ (s0 = 0 ∨ s0 < st) ∧ (xs.length : Int) ≤ 10000 := by omega
  clear h
  obtain ⟨C, hC⟩ : ∃ C, C = Obj.cells #[.int .i64 st, .int .i64 lb, .int .i64 s0, .slice a xs.length c] 24 := ⟨_, rfl⟩
  obtain ⟨F, hF⟩ : ∃ F, F = Obj.cells #[.string ⟨#[115, 121, 115, 116, 101, 109]⟩, .int .i64 0, .int .i64 0, .iface 285 (.pointer (some p))] 76 := ⟨_, rfl⟩
  have HC := Lib.hid hC; have HF := Lib.hid hF
  clear hC hF
  go_enter Tryz.func42, Tryz.ntmps42
  go_wp2_with (go_at_call 33; refine (faultNew_any _ _ _ _).mono ?_; rintro e w1 ⟨rfl, rfl⟩)
  all_goals
    rw [← HC.out, ← HF.out]
    go_loopw [5, 54] (fun _ i wr => ∃ k : Nat, k ≤ xs.length ∧ i = .int .i64 k ∧ (∀ j x, j < k → xs[j]? = some x → offB st lb x = false) ∧ Below (w.heap.size + 2) ((w.alloc C).alloc F) wr)
      (fun _ i _ => xs.length - (intOf i).toNat)
    case atStart => exact ⟨0, Nat.zero_le _, rfl, by intro j x hj; omega, Below.refl _ _⟩
    case round =>
      obtain ⟨k, hk, rfl, hz, hB⟩ := hrel
      have HZ := Lib.hid hz; clear hz
      have hsz : w.heap.size + 2 ≤ wr.heap.size := by simpa using hB.size
      have q0 : wr.heap[w.heap.size]? = some C := by
        rw [hB.block _ (by omega), Below.heap_alloc _ _ _ (by simp), heap_alloc_new]
      have q1 : wr.heap[w.heap.size + 1]? = some F := by
        rw [hB.block _ (by omega)]; simpa using heap_alloc_new (w.alloc C) F
      rw [HC.out] at q0; rw [HF.out] at q1
      have s0' : wr.cell? ⟨w.heap.size, 0, none⟩ = some (.int .i64 st) := by simp [World.cell?, q0]
      have s1' : wr.cell? ⟨w.heap.size, 1, none⟩ = some (.int .i64 lb) := by simp [World.cell?, q0]
      have s2' : wr.cell? ⟨w.heap.size, 2, none⟩ = some (.int .i64 s0) := by simp [World.cell?, q0]
      have s3' : wr.cell? ⟨w.heap.size, 3, none⟩ = some (.slice a xs.length c) := by simp [World.cell?, q0]
      have Q1 := Lib.hid q1
      have hBw : Below w.heap.size w wr := (((Below.refl _ _).alloc (Nat.le_refl _) C).alloc (by simp) F).trans (hB.mono (by omega))
      have hltr : w.heap.size < wr.heap.size := by omega
      clear q0 q1
      by_cases hlt2 : k < xs.length
      · obtain ⟨x, hx⟩ := getElem?_of_lt hlt2
        obtain rfl := hS.ad (by omega)
        have hS' := hS.below hBw (Nat.le_refl _)
        have c0 := hS'.e0 hx; have c1 := hS'.e1 hx; have c2 := hS'.e2 hx
        have hbl := hS'.lt (by omega)
        have HX := Lib.hid hx
        have HS := Lib.hid hS
        clear hx hS hS' hg
        by_cases ho : offB st lb x = true
        · have HO := Lib.hid ho
          go_wp2_with (go_at_call 78; refine (offends_any st lb s0 _ x _).mono ?_; rintro e w1 ⟨rfl, hB1⟩)
          go_ret
          have hall : xs.all (fun x => !offB st lb x) = false := by
            rw [List.all_eq_false]
            exact ⟨x, List.mem_of_getElem? HX.out, by simp [HO.out]⟩
          have hB2 := (hB.alloc hsz _).trans (hB1.mono (by simp; omega))
          refine ⟨by unfold CheckPost; rw [hall]; exact ⟨_, rfl, ⟨w.heap.size + 1, rfl, by rw [hB2.block _ (by omega), ← HF.out]; simpa using heap_alloc_new (w.alloc C) F⟩⟩, (((Below.refl _ _).alloc (Nat.le_refl _) C).alloc (by simp) F).trans (hB2.mono (by omega))⟩
        · have ho' : offB st lb x = false := by simpa using ho
          have HO := Lib.hid ho'
          clear ho
          go_wp2_with (go_at_call 78; refine (offends_any st lb s0 _ x _).mono ?_; rintro e w1 ⟨rfl, hB1⟩)
          go_roundw
          case rel => exact ⟨k + 1, by omega, by go_num, by
            intro j y hj hy
            by_cases hjk : j = k
            · subst hjk
              rw [HX.out] at hy
              simp at hy; subst hy
              exact HO.out
            · exact HZ.out j y (by omega) hy, (hB.alloc hsz _).trans (hB1.mono (by simp; omega))⟩
          case measure => simp [intOf]; omega
      · clear hS hg
        go_wp2
        go_ret
        have hall : xs.all (fun x => !offB st lb x) = true := by
          rw [List.all_eq_true]
          intro x hx
          obtain ⟨j, hj, rfl⟩ := List.getElem_of_mem hx
          simp [HZ.out j _ (by omega) (List.getElem?_eq_getElem hj)]
        exact ⟨by unfold CheckPost; rw [hall]; rfl, hBw⟩

end Go.Proofs.YtdhloijdefnkpaaGreatDoor

namespace Go.Proofs.YtdhloijdefnkpaaGreatDoor
open Go.RowKit Go.Extern.Stop Go.Stop Go.Extern Pl

/-! closed facts: what TypeOf(target).Comparable() gives at such a target; what the assertions find -/
theorem isTypeOf (v : Value) (w : World) : (callFunc 49 #[.iface 285 v]).run Tryz.prog w = .ok (.value (.iface 144 (.agg #[.pointer (some ⟨24, 285, none⟩)]))) w := by kernel_rfl
theorem isComparable (w : World) : (callFunc 243 #[.agg #[.pointer (some ⟨24, 285, none⟩)]]).run Tryz.prog w = .ok (.value (.bool true)) w := by kernel_rfl
theorem isMethodComparable (v : Value) (w : World) : (Go.method 415 144 v "Comparable").run Tryz.prog w = .ok (243, v) w := by kernel_rfl
theorem isComp : (Tryz.prog.info? 285).map (·.comparable) = some true := by kernel_rfl
theorem isSize : (Tryz.prog.info? 303).map (·.size) = some 1 := by kernel_rfl
theorem noIsE (v : Value) (xT : TypeId) (w : World) : (Instr.typeAssert (.iface 285 v) xT 146 true).run Tryz.prog w = .ok (.tuple #[.nilIface, .bool false]) w := run_typeAssert_lacksB Tryz.underlying146 (by kernel_rfl) (by kernel_rfl) v xT w
theorem noUnwrapE (v : Value) (xT : TypeId) (w : World) : (Instr.typeAssert (.iface 285 v) xT 149 true).run Tryz.prog w = .ok (.tuple #[.nilIface, .bool false]) w := run_typeAssert_lacksB Tryz.underlying149 (by kernel_rfl) (by kernel_rfl) v xT w
theorem noUnwrapsE (v : Value) (xT : TypeId) (w : World) : (Instr.typeAssert (.iface 285 v) xT 151 true).run Tryz.prog w = .ok (.tuple #[.nilIface, .bool false]) w := run_typeAssert_lacksB Tryz.underlying151 (by kernel_rfl) (by kernel_rfl) v xT w
theorem noIsW (v : Value) (xT : TypeId) (w : World) : (Instr.typeAssert (.iface 73 v) xT 146 true).run Tryz.prog w = .ok (.tuple #[.nilIface, .bool false]) w := run_typeAssert_lacksB Tryz.underlying146 (by kernel_rfl) (by kernel_rfl) v xT w
theorem hasUnwrapW (v : Value) (xT : TypeId) (w : World) : (Instr.typeAssert (.iface 73 v) xT 149 true).run Tryz.prog w = .ok (.tuple #[.iface 73 v, .bool true]) w := run_typeAssert_hasB Tryz.underlying149 (by kernel_rfl) v xT w
theorem methodUnwrap (v : Value) (w : World) : (Go.method 415 73 v "Unwrap").run Tryz.prog w = .ok (239, v) w := by kernel_rfl

/-- (*Fault).Unwrap. -/
theorem unwrap_any {b : Nat} {inner : Value} {w : World} (h : w.cell? ⟨b, 3, none⟩ = some inner) :
    Calls Tryz.prog 239 #[.pointer (some ⟨b, 0, none⟩)] w fun e w' => e = .returned inner ∧ w = w' := by
  go_enter Tryz.func239, Tryz.ntmps239
  go_wp2
  go_ret
  exact ⟨rfl, rfl⟩

/-- errors.Is(nil, x). -/
theorem is_nil (b : Addr) (w : World) :
    Calls Tryz.prog 22 #[.nilIface, .iface 285 (.pointer (some b))] w fun e w' => e = .returned (.bool false) ∧ w = w' := by
  have hn := run_eql_iface_nil_left (P := Tryz.prog) w 285 (.pointer (some b)) Tryz.underlying28
  go_enter Tryz.func22, Tryz.ntmps22
  go_wp2
  go_ret
  exact ⟨rfl, rfl⟩

set_option maxRecDepth 100000 in
/-- errors.Is(a fault that wraps x itself, x). -/
theorem is_fault_same (pb : Nat) (b : Addr) (w : World) (h1 : w.cell? ⟨pb, 3, none⟩ = some (.iface 285 (.pointer (some b)))) :
    Calls Tryz.prog 22 #[.iface 73 (.pointer (some ⟨pb, 0, none⟩)), .iface 285 (.pointer (some b))] w fun e w' => e = .returned (.bool true) ∧ w = w' := by
  obtain ⟨i, hi, hcmp⟩ := Option.map_eq_some_iff.1 isComp
  obtain ⟨j, hj, hjs⟩ := Option.map_eq_some_iff.1 isSize
  have tT := isTypeOf
  have cT := isComparable
  have mR := isMethodComparable
  have nE := noIsE
  have uE := noUnwrapE
  have vE := noUnwrapsE
  have nW := noIsW
  have uW := hasUnwrapW
  have mU := methodUnwrap
  have heq := run_eql_iface_ptr_same (P := Tryz.prog) w b Tryz.underlying28 Tryz.underlying285 hi hcmp hj
  have hty := run_eql_iface_types (P := Tryz.prog) 73 285 (.pointer (some ⟨pb, 0, none⟩)) (.pointer (some b)) Tryz.underlying28 (by decide) w
  go_enter Tryz.func22, Tryz.ntmps22
  go_wp2
  refine wp_loop_rounds 2 ?_
  rw [rounds_succ]
  go_wp2
  rw [rounds_succ]
  go_wp2
  go_ret
  exact ⟨rfl, rfl⟩

set_option maxRecDepth 100000 in
/-- errors.Is(a fault that wraps another error, x). -/
theorem is_fault_other (pb : Nat) (b a : Addr) (ca cb : Array Value) (ta tb : TypeId) (w : World) (h1 : w.cell? ⟨pb, 3, none⟩ = some (.iface 285 (.pointer (some a)))) (hne : a ≠ b) (ha : w.heap[a.block]? = some (.cells ca ta (0, 0))) (hb : w.heap[b.block]? = some (.cells cb tb (0, 0))) :
    Calls Tryz.prog 22 #[.iface 73 (.pointer (some ⟨pb, 0, none⟩)), .iface 285 (.pointer (some b))] w fun e w' => e = .returned (.bool false) ∧ w = w' := by
  obtain ⟨i, hi, hcmp⟩ := Option.map_eq_some_iff.1 isComp
  obtain ⟨j, hj, hjs⟩ := Option.map_eq_some_iff.1 isSize
  have tT := isTypeOf
  have cT := isComparable
  have mR := isMethodComparable
  have nE := noIsE
  have uE := noUnwrapE
  have vE := noUnwrapsE
  have nW := noIsW
  have uW := hasUnwrapW
  have mU := methodUnwrap
  have heq := run_eql_iface_ptr_other (P := Tryz.prog) w Tryz.underlying28 Tryz.underlying285 hi hcmp hj (by rw [hjs]; decide) hne ha hb
  have hty := run_eql_iface_types (P := Tryz.prog) 73 285 (.pointer (some ⟨pb, 0, none⟩)) (.pointer (some b)) Tryz.underlying28 (by decide) w
  go_enter Tryz.func22, Tryz.ntmps22
  go_wp2
  refine wp_loop_rounds 2 ?_
  rw [rounds_succ]
  go_wp2
  rw [rounds_succ]
  go_wp2
  go_ret
  exact ⟨rfl, rfl⟩
end Go.Proofs.YtdhloijdefnkpaaGreatDoor

namespace Go.Proofs.YtdhloijdefnkpaaGreatDoor
open Go.RowKit Pl

/-- 'out = append(out, x..)', out the call's own, something is appended: the new value written out, and where it lies. -/
theorem wpList_lies {P : Program} {w : World} {ops : Array Oper} {rest : List Oper} {o : Oper} {a : Act} {Q : Exit → Act → World → Prop} (hgd : o.guard = none) (s x : Operand) (t : TypeId)
    (ho : o.op = .call { callee := .builtin .append, args := #[s, x], argTypes := #[t, t] })
    {e : TypeId} {size bytes : Nat} {z : Value} (R : IsRow P t e size bytes z) {base : Nat} (hb0 : base ≤ w.heap.size)
    {v : Value} {n : Nat} {xs : List Value} (hs : a.eval s = v) (hown : w.ownsRow base e size v n xs)
    (ad : Addr) (m c : Nat) (news : List Value) (hx : a.eval x = .slice (some ad) m c) (hl : news.length = m * size) (hnews : ∀ j u, news[j]? = some u → w.cell? (ad.add j) = some u) (h1 : ∀ u ∈ news, u.oneCell' = true) (hm : 0 < m)
    (hbytes : (n + m) * bytes ≤ 140737488355328) (hmax : n + m ≤ maxLen) (H : Nat) (hH : w.heap.size = H)
    (h : ∀ g cap w', w'.ownsRow base e size (.slice (some ⟨g, 0, none⟩) (n + m) cap) (n + m) (xs ++ news) → w.grownBy w' v.ownBlock → (v.ownBlock = some g ∨ g = H) → g < w'.heap.size → wpList P ops Q rest (a.put o.dst (.slice (some ⟨g, 0, none⟩) (n + m) cap)) w') : wpList P ops Q (o :: rest) a w := by
  obtain ⟨i, hi, hz, hsz, hby⟩ := R.info
  exact wpList_plain hgd fun _ hK => wp_append_lies w s x t ho base e i z size bytes R.ht hi hz hsz hby R.zs R.pos v n xs hs hown ad m c news hx hl hnews h1 hm hmax hbytes hb0 H hH (fun g cap w' h2 h3 h4 h5 => hK _ _ (h g cap w' h2 h3 h4 h5))

section
variable {α : Type} {enc : α → List Value} {k : Nat} {e T : TypeId} {w w' : World} {base ob n : Nat} {f : Nat → List α}

/-- The row ob holds n slices; the p-th owns the list f p; no two share a block. -/
structure OwnRows (enc : α → List Value) (k : Nat) (e T : TypeId) (w : World) (base ob n : Nat) (f : Nat → List α) : Prop where
  ex : ∃ vs : Nat → Value, w.rowIs ob T n vs ∧ (∀ p, p < n → w.ownsRow base e k (vs p) (f p).length ((f p).flatMap enc)) ∧
    (∀ p q g, p < n → q < n → p ≠ q → (vs p).ownBlock = some g → (vs q).ownBlock ≠ some g)
  lt : ob < base

theorem OwnRows.made {w : World} {n : Nat} : OwnRows enc k e T (w.alloc (.cells (madeCells #[.slice none 0 0] n) T)) (w.heap.size + 1) w.heap.size n (fun _ => []) where
  ex := ⟨fun _ => .slice none 0 0, World.rowIs_made w (.slice none 0 0) n T, fun p _ => ⟨by simp, .inl ⟨rfl, rfl⟩⟩, fun p q g _ _ _ h => by simp [Value.ownBlock] at h⟩
  lt := by omega

/-- A change that leaves the row of slices and each list's block alone. -/
theorem OwnRows.kept (h : OwnRows enc k e T w base ob n f) (hs : ∀ b, b = ob ∨ base ≤ b → b < w.heap.size → w'.heap[b]? = w.heap[b]?) : OwnRows enc k e T w' base ob n f := by
  obtain ⟨vs, h1, h2, h3⟩ := h.ex
  refine ⟨⟨vs, h1.of_block (hs ob (.inl rfl) h1.lt), fun p hp => ?_, h3⟩, h.lt⟩
  have h4 := h2 p hp
  refine ⟨h4.1, ?_⟩
  rcases h4.2 with h5 | ⟨g, cap, cur, hv, hg, hh, r⟩
  · exact .inl h5
  · exact .inr ⟨g, cap, cur, hv, hg, by rw [hs g (.inr hg) (Array.getElem?_eq_some_iff.1 hh).1]; exact hh, r⟩

theorem OwnRows.call (h : OwnRows enc k e T w base ob n f) (hB : Below w.heap.size w w') : OwnRows enc k e T w' base ob n f :=
  h.kept (fun b _ hb => hB.block b hb)
theorem OwnRows.alloc (h : OwnRows enc k e T w base ob n f) (o : Obj) : OwnRows enc k e T (w.alloc o) base ob n f :=
  h.call ((Below.refl _ _).alloc (Nat.le_refl _) o)
theorem OwnRows.drewN (h : OwnRows enc k e T w base ob n f) (m : Nat) : OwnRows enc k e T (w.drewN m) base ob n f := h.kept (fun _ _ _ => rfl)
theorem OwnRows.setOther (h : OwnRows enc k e T w base ob n f) {a : Addr} (h1 : a.block ≠ ob) (h2 : a.block < base) (v : Value) : OwnRows enc k e T (w.setCell a v) base ob n f :=
  h.kept (fun b hb _ => Below.heap_setCell _ _ _ _ (by rcases hb with rfl | hb <;> omega))
theorem OwnRows.size (h : OwnRows enc k e T w base ob n f) : ob < w.heap.size := by obtain ⟨vs, h1, _⟩ := h.ex; exact h1.lt

/-- What stands at p. -/
theorem OwnRows.at (h : OwnRows enc k e T w base ob n f) {p : Nat} (hp : p < n) : ∃ v, w.cell? ⟨ob, p, none⟩ = some v ∧ w.frozen? ⟨ob, p, none⟩ = false ∧ w.ownsRow base e k v (f p).length ((f p).flatMap enc) := by
  obtain ⟨vs, h1, h2, _⟩ := h.ex
  exact ⟨vs p, h1.cell hp, h1.frozen p, h2 p hp⟩

/-- What stands at p, and how an append to it goes on: w2 is the world behind the append, before the store. -/
theorem OwnRows.open (h : OwnRows enc k e T w base ob n f) {p : Nat} (hp : p < n) : ∃ v, w.cell? ⟨ob, p, none⟩ = some v ∧ w.frozen? ⟨ob, p, none⟩ = false ∧ w.ownsRow base e k v (f p).length ((f p).flatMap enc) ∧
    ∀ (w1 w2 : World) (g cap : Nat) (ys : List α), Below w.heap.size w w1 → base ≤ w1.heap.size → w2.ownsRow base e k (.slice (some ⟨g, 0, none⟩) ys.length cap) ys.length (ys.flatMap enc) → w1.grownBy w2 v.ownBlock → (v.ownBlock = some g ∨ w.heap.size ≤ g) →
      w2.cell? ⟨ob, p, none⟩ = some v ∧ w2.frozen? ⟨ob, p, none⟩ = false ∧
      OwnRows enc k e T (w2.setCell ⟨ob, p, none⟩ (.slice (some ⟨g, 0, none⟩) ys.length cap)) base ob n (fun i => if i = p then ys else f i) := by
  obtain ⟨vs, h1, h2, h3⟩ := h.ex
  refine ⟨vs p, h1.cell hp, h1.frozen p, h2 p hp, fun w1 w2 g cap ys hB hbs hown hg hgg => ?_⟩
  have hob : (vs p).ownBlock ≠ some ob := fun e => by
    have := ((h2 p hp).lt ob e).1; have := h.lt; omega
  have hobl : ob < w1.heap.size := Nat.lt_of_lt_of_le h1.lt hB.size
  have hrow2 : w2.rowIs ob T n vs := (h1.of_block (hB.block ob h1.lt)).of_block (hg.block ob hobl (fun e => hob e.symm))
  refine ⟨hrow2.cell hp, hrow2.frozen p, ⟨fun i => if i = p then .slice (some ⟨g, 0, none⟩) ys.length cap else vs i, hrow2.set p _, fun q hq => ?_, ?_⟩, h.lt⟩
  · by_cases e : q = p
    · subst e
      simp only [if_true]
      exact ownsRow_setCell_below hown h.lt _
    · simp only [if_neg e]
      have h4 := h2 q hq
      refine ⟨h4.1, ?_⟩
      rcases h4.2 with h5 | ⟨gq, capq, cur, hv, hgq, hh, r⟩
      · exact .inl h5
      · refine .inr ⟨gq, capq, cur, hv, hgq, ?_, r⟩
        have hlt := (Array.getElem?_eq_some_iff.1 hh).1
        have hl := h.lt
        have hqb : (vs q).ownBlock = some gq := by rw [hv]; rfl
        rw [Below.heap_setCell _ _ _ _ (by show gq ≠ ob; omega), hg.block gq (Nat.lt_of_lt_of_le hlt hB.size) (fun e2 => h3 q p gq hq hp e hqb e2.symm), hB.block gq hlt]
        exact hh
  · intro a b gg ha hb hab hga
    have key : ∀ q, q < n → q ≠ p → (vs q).ownBlock ≠ some g := by
      intro q hq hqp e2
      rcases hgg with e1 | e1
      · exact h3 p q g hp hq (Ne.symm hqp) e1 e2
      · have := ((h2 q hq).lt g e2).2; omega
    by_cases e1 : a = p
    · subst e1
      simp only [if_true, Value.ownBlock, Option.some.injEq] at hga
      subst hga
      simp only [if_neg (Ne.symm hab)]
      exact key b hb (Ne.symm hab)
    · simp only [if_neg e1] at hga
      by_cases e2 : b = p
      · subst e2
        simp only [if_true, Value.ownBlock]
        intro e3
        simp only [Option.some.injEq] at e3
        subst e3
        exact key a ha e1 hga
      · simp only [if_neg e2]; exact h3 a b gg ha hb hab hga

end
end Go.Proofs.YtdhloijdefnkpaaGreatDoor
