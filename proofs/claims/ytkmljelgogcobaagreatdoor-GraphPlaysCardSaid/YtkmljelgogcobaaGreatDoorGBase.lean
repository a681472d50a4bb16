/-
  How lists of numbers, bools, steps, edges read in memory ('SlAt'), and rows that a call owns ('ownsRow') as such lists; the element types' rows of the table.
  The errors: the package-level ones in memory; fault.New; system.offends, system.Check.
-/
import Derived.Test.YtkmljelgogcobaaGreatDoorGPl9
import Derived.Test.YtkmljelgogcobaaGreatDoorGPl1
import Derived.Outline
namespace Go.Proofs.YtkmljelgogcobaaGreatDoor
open Go.RowKit Pl

def encI (x : Int) : List Value := [.int .i64 x]
def encB (x : Bool) : List Value := [.bool x]
def encS (x : S) : List Value := [.int .i64 x.1, .int .i64 x.2]
def encE (x : E) : List Value := [.int .i64 x.1, .int .i64 x.2.1, .int .i64 x.2.2]
def encV (x : Value) : List Value := [x]

theorem rowI : IsRow Tryz.prog 49 3 1 8 (.int .i64 0) := isRow_of Tryz.underlying49 (by kernel_rfl) rfl (by decide)
theorem rowS : IsRow Tryz.prog 46 92 2 16 (.agg #[.int .i64 0, .int .i64 0]) := isRow_of Tryz.underlying46 (by kernel_rfl) rfl (by decide)
theorem rowE : IsRow Tryz.prog 22 79 3 24 (.agg #[.int .i64 0, .int .i64 0, .int .i64 0]) := isRow_of Tryz.underlying22 (by kernel_rfl) rfl (by decide)
theorem rowB : IsRow Tryz.prog 81 4 1 1 (.bool false) := isRow_of Tryz.underlying81 (by kernel_rfl) rfl (by decide)

section
variable {α : Type} {enc : α → List Value} {k : Nat} {w w' : World} {a : Option Addr} {b off : Nat} {xs : List α}

/-- The elements xs, k cells each, lie at ⟨b, off⟩ in the world w; a is the slice's address. -/
structure SlAt (enc : α → List Value) (k : Nat) (w : World) (a : Option Addr) (b off : Nat) (xs : List α) : Prop where
  ad : 0 < xs.length → a = some ⟨b, off, none⟩
  lt : 0 < xs.length → b < w.heap.size
  cell : ∀ i x, xs[i]? = some x → ∀ j u, (enc x)[j]? = some u → w.cell? ⟨b, off + i * k + j, none⟩ = some u

theorem SlAt.below {B : Nat} (h : SlAt enc k w a b off xs) (hB : Below B w w') (hle : w.heap.size ≤ B) : SlAt enc k w' a b off xs :=
  ⟨h.ad, fun hl => Nat.lt_of_lt_of_le (h.lt hl) hB.size, fun i x hx j u hu => by
    have hl : 0 < xs.length := by have := (List.getElem?_eq_some_iff.1 hx).1; omega
    rw [hB.cell (p := ⟨b, off + i * k + j, none⟩) (Nat.lt_of_lt_of_le (h.lt hl) hle)]
    exact h.cell i x hx j u hu⟩

/-- The same, at blocks below B alone. -/
theorem SlAt.below' {B : Nat} (h : SlAt enc k w a b off xs) (hB : Below B w w') (hle : 0 < xs.length → b < B) : SlAt enc k w' a b off xs :=
  ⟨h.ad, fun hl => Nat.lt_of_lt_of_le (h.lt hl) hB.size, fun i x hx j u hu => by
    have hl : 0 < xs.length := by have := (List.getElem?_eq_some_iff.1 hx).1; omega
    rw [hB.cell (p := ⟨b, off + i * k + j, none⟩) (hle hl)]
    exact h.cell i x hx j u hu⟩

theorem slAt_nil (w : World) (a : Option Addr) (b off : Nat) : SlAt enc k w a b off [] := ⟨by simp, by simp, by simp⟩

theorem getElem?_flatMap (hk : ∀ x, (enc x).length = k) : ∀ (xs : List α) (i : Nat) (x : α), xs[i]? = some x → ∀ j u, (enc x)[j]? = some u → (xs.flatMap enc)[i * k + j]? = some u
  | [], i, x, h, _, _, _ => by simp at h
  | y :: xs, 0, x, h, j, u, hu => by
    simp at h; subst h
    rw [List.flatMap_cons, Nat.zero_mul, Nat.zero_add, List.getElem?_append_left (List.getElem?_eq_some_iff.1 hu).1]
    exact hu
  | y :: xs, i + 1, x, h, j, u, hu => by
    rw [List.flatMap_cons, List.getElem?_append_right (by rw [hk, Nat.add_mul]; omega), hk]
    rw [show (i + 1) * k + j - k = i * k + j by rw [Nat.add_mul]; omega]
    exact getElem?_flatMap hk xs i x (by simpa using h) j u hu

theorem length_flatMap (hk : ∀ x, (enc x).length = k) : ∀ xs : List α, (xs.flatMap enc).length = xs.length * k
  | [] => by simp
  | y :: xs => by rw [List.flatMap_cons, List.length_append, hk, length_flatMap hk xs, List.length_cons, Nat.add_mul]; omega

/-- What the call owns reads as a list. -/
theorem slAt_own {base : Nat} {e : TypeId} {v : Value} (hk : ∀ x, (enc x).length = k) (h : w.ownsRow base e k v xs.length (xs.flatMap enc)) :
    ∃ a c b, v = .slice a xs.length c ∧ xs.length ≤ c ∧ c ≤ maxLen ∧ SlAt enc k w a b 0 xs ∧ (0 < xs.length → base ≤ b) := by
  rcases h.2 with ⟨rfl, hn⟩ | ⟨g, cap, cur, rfl, hbg, hg, hnc, hcm, hcs, htake⟩
  · have : xs = [] := List.eq_nil_of_length_eq_zero hn
    subst this
    exact ⟨none, 0, 0, rfl, Nat.le_refl _, by unfold maxLen; omega, slAt_nil _ _ _ _, by simp⟩
  · refine ⟨some ⟨g, 0, none⟩, cap, g, rfl, hnc, hcm, ⟨fun _ => rfl, fun _ => (Array.getElem?_eq_some_iff.1 hg).1, fun i x hx j u hu => ?_⟩, fun _ => hbg⟩
    rw [cell_of_row w g _ cur e (0, 0) hg]
    have h1 := getElem?_flatMap hk xs i x hx j u hu
    rw [← htake, List.getElem?_take] at h1
    split at h1
    · simpa using h1
    · cases h1

end

theorem lenI (x : Int) : (encI x).length = 1 := rfl
theorem lenB (x : Bool) : (encB x).length = 1 := rfl
theorem lenS (x : S) : (encS x).length = 2 := rfl
theorem lenE (x : E) : (encE x).length = 3 := rfl
theorem lenV (x : Value) : (encV x).length = 1 := rfl

section
variable {w : World} {a : Option Addr} {b off i : Nat}
theorem SlAt.ci {xs : List Int} {x : Int} (h : SlAt encI 1 w a b off xs) (hx : xs[i]? = some x) : w.cell? ⟨b, off + i, none⟩ = some (.int .i64 x) := by
  simpa using h.cell i x hx 0 _ rfl
theorem SlAt.cb {xs : List Bool} {x : Bool} (h : SlAt encB 1 w a b off xs) (hx : xs[i]? = some x) : w.cell? ⟨b, off + i, none⟩ = some (.bool x) := by
  simpa using h.cell i x hx 0 _ rfl
theorem SlAt.cv {xs : List Value} {x : Value} (h : SlAt encV 1 w a b off xs) (hx : xs[i]? = some x) : w.cell? ⟨b, off + i, none⟩ = some x := by
  simpa using h.cell i x hx 0 _ rfl
theorem SlAt.s0 {xs : List S} {x : S} (h : SlAt encS 2 w a b off xs) (hx : xs[i]? = some x) : w.cell? ⟨b, off + i * 2, none⟩ = some (.int .i64 x.1) := by
  simpa using h.cell i x hx 0 _ rfl
theorem SlAt.s1 {xs : List S} {x : S} (h : SlAt encS 2 w a b off xs) (hx : xs[i]? = some x) : w.cell? ⟨b, off + i * 2 + 1, none⟩ = some (.int .i64 x.2) :=
  h.cell i x hx 1 _ rfl
theorem SlAt.e0 {xs : List E} {x : E} (h : SlAt encE 3 w a b off xs) (hx : xs[i]? = some x) : w.cell? ⟨b, off + i * 3, none⟩ = some (.int .i64 x.1) := by
  simpa using h.cell i x hx 0 _ rfl
theorem SlAt.e1 {xs : List E} {x : E} (h : SlAt encE 3 w a b off xs) (hx : xs[i]? = some x) : w.cell? ⟨b, off + i * 3 + 1, none⟩ = some (.int .i64 x.2.1) :=
  h.cell i x hx 1 _ rfl
theorem SlAt.e2 {xs : List E} {x : E} (h : SlAt encE 3 w a b off xs) (hx : xs[i]? = some x) : w.cell? ⟨b, off + i * 3 + 2, none⟩ = some (.int .i64 x.2.2) :=
  h.cell i x hx 2 _ rfl
end

theorem getElem?_of_lt {α : Type} {xs : List α} {i : Nat} (h : i < xs.length) : ∃ x, xs[i]? = some x := ⟨xs[i], List.getElem?_eq_getElem h⟩

theorem ret_i {a b : Int} (h : a = b) : Ending.returned (.int .i64 a) = .returned (.int .i64 b) := by rw [h]
theorem ret_b {a b : Bool} (h : a = b) : Ending.returned (.bool a) = .returned (.bool b) := by rw [h]

/-- 'f' of a list, one element more. -/
theorem take_snoc {α : Type} {xs : List α} {i : Nat} {x : α} (h : xs[i]? = some x) : xs.take (i + 1) = xs.take i ++ [x] := by
  obtain ⟨hl, rfl⟩ := List.getElem?_eq_some_iff.1 h
  exact List.take_succ_eq_append_getElem hl

end Go.Proofs.YtkmljelgogcobaaGreatDoor

namespace Go.Proofs.YtkmljelgogcobaaGreatDoor
open Go.RowKit Pl

theorem faultNew_any (s : ByteArray) (t : TypeId) (v : Value) (w : World) : Calls Tryz.prog 125 #[.string s, .iface t v] w fun e w' =>
    e = .returned (.iface 131 (.pointer (some ⟨w.heap.size, 0, none⟩))) ∧ w' = w.alloc (.cells #[.string s, .int .i64 0, .int .i64 0, .iface t v] 134) := by
  go_enter Tryz.func125, Tryz.ntmps125
  go_wp2
  go_ret
  exact ⟨rfl, rfl⟩

/-- A package-level error: a pointer. -/
structure GErr (g : Nat) (p : Addr) (w : World) : Prop where
  lt : g < w.heap.size
  cell : w.cell? ⟨g, 0, none⟩ = some (.iface 248 (.pointer (some p)))

theorem GErr.below {g : Nat} {p : Addr} {w w' : World} (h : GErr g p w) (hB : Below w.heap.size w w') : GErr g p w' :=
  ⟨Nat.lt_of_lt_of_le h.lt hB.size, by rw [hB.cell (p := ⟨g, 0, none⟩) h.lt]; exact h.cell⟩

/-- A fault of a layer, without a place. -/
structure FaultAt (w : World) (v : Value) (layer : ByteArray) (inner : Value) : Prop where
  ex : ∃ b, v = .iface 131 (.pointer (some ⟨b, 0, none⟩)) ∧ w.heap[b]? = some (.cells #[.string layer, .int .i64 0, .int .i64 0, inner] 134 (0, 0))

theorem offends_any (st lb s0 : Int) (es : Value) (x : E) (w : World) :
    Calls Tryz.prog 126 #[.agg #[.int .i64 st, .int .i64 lb, .int .i64 s0, es], .agg #[.int .i64 x.1, .int .i64 x.2.1, .int .i64 x.2.2]] w fun e w' =>
      e = .returned (.bool (offB st lb x)) ∧ Below w.heap.size w w' := by
  unfold offB
  go_enter Tryz.func126, Tryz.ntmps126
  go_wp2
  all_goals (go_ret; exact ⟨by simp [*]; try omega, ((Below.refl _ _).alloc (Nat.le_refl _) _).alloc (by simp) _⟩)

set_option maxRecDepth 100000 in
set_option maxHeartbeats 1000000 in
theorem check_head {p : Addr} (st lb s0 : Int) (a : Option Addr) (n c : Nat) (w : World) (hG : GErr 0 p w) (h : HeadBad st lb s0 n) :
    Calls Tryz.prog 63 #[.agg #[.int .i64 st, .int .i64 lb, .int .i64 s0, .slice a n c]] w fun e w' => ∃ v, e = .returned v ∧ FaultAt w' v ⟨#[115, 121, 115, 116, 101, 109]⟩ (.iface 248 (.pointer (some p))) ∧ Below w.heap.size w w' := by
  unfold HeadBad at h
  have hg := hG.cell
  have hlt := hG.lt
  go_enter Tryz.func63, Tryz.ntmps63
  go_wp2_with (go_at_call 125; refine (faultNew_any _ _ _ _).mono ?_; rintro e w1 ⟨rfl, rfl⟩)
  all_goals (go_ret; exact ⟨_, rfl, ⟨w.heap.size + 1, rfl, by simpa using heap_alloc_new (w.alloc (.cells #[.int .i64 st, .int .i64 lb, .int .i64 s0, .slice a n c] 24)) (.cells #[.string ⟨#[115, 121, 115, 116, 101, 109]⟩, .int .i64 0, .int .i64 0, .iface 248 (.pointer (some p))] 134)⟩, ((Below.refl _ _).alloc (Nat.le_refl _) _).alloc (by simp) _⟩)

/-- What system.Check answers where the head is right. -/
def CheckPost (st lb : Int) (xs : List E) (p : Addr) (e : Ending) (w' : World) : Prop :=
  if xs.all (fun x => !offB st lb x) then e = .returned .nilIface else ∃ v, e = .returned v ∧ FaultAt w' v ⟨#[115, 121, 115, 116, 101, 109]⟩ (.iface 248 (.pointer (some p)))

set_option maxRecDepth 100000 in
set_option maxHeartbeats 1000000 in
/-- system.Check, the head of the system being right. -/
theorem check_body {p : Addr} (st lb s0 : Int) (a : Option Addr) (b off c : Nat) (xs : List E) (w : World) (hG : GErr 0 p w) (h : ¬ HeadBad st lb s0 xs.length) (hS : SlAt encE 3 w a b off xs) :
    Calls Tryz.prog 63 #[.agg #[.int .i64 st, .int .i64 lb, .int .i64 s0, .slice a xs.length c]] w fun e w' =>
      CheckPost st lb xs p e w' ∧ Below w.heap.size w w' := by
  unfold HeadBad at h
  have hg := hG.cell
  have hlt := hG.lt
  obtain ⟨h1, h2, h3, h4, h5, h6, h7⟩ : 0 ≤ st ∧ st ≤ 1000 ∧ 1 ≤ lb ∧ lb ≤ 201 ∧ 0 ≤ s0 ∧ (s0 = 0 ∨ s0 < st) ∧ (xs.length : Int) ≤ 10000 := by omega
  clear h
  obtain ⟨C, hC⟩ : ∃ C, C = Obj.cells #[.int .i64 st, .int .i64 lb, .int .i64 s0, .slice a xs.length c] 24 := ⟨_, rfl⟩
  obtain ⟨F, hF⟩ : ∃ F, F = Obj.cells #[.string ⟨#[115, 121, 115, 116, 101, 109]⟩, .int .i64 0, .int .i64 0, .iface 248 (.pointer (some p))] 134 := ⟨_, rfl⟩
  have HC := Lib.hid hC; have HF := Lib.hid hF
  clear hC hF
  go_enter Tryz.func63, Tryz.ntmps63
  go_wp2_with (go_at_call 125; refine (faultNew_any _ _ _ _).mono ?_; rintro e w1 ⟨rfl, rfl⟩)
  all_goals
    rw [← HC.out, ← HF.out]
    go_loopw [5, 54] (fun _ i wr => ∃ k : Nat, k ≤ xs.length ∧ i = .int .i64 k ∧ (∀ j x, j < k → xs[j]? = some x → offB st lb x = false) ∧ Below (w.heap.size + 2) ((w.alloc C).alloc F) wr)
      (fun _ i _ => xs.length - (intOf i).toNat)
    case atStart => exact ⟨0, Nat.zero_le _, rfl, by intro j x hj; omega, Below.refl _ _⟩
    case round =>
      obtain ⟨k, hk, rfl, hz, hB⟩ := hrel
      have HZ := Lib.hid hz; clear hz
      have hsz : w.heap.size + 2 ≤ wr.heap.size := by simpa using hB.size
      have q0 : wr.heap[w.heap.size]? = some C := by
        rw [hB.block _ (by omega), Below.heap_alloc _ _ _ (by simp), heap_alloc_new]
      have q1 : wr.heap[w.heap.size + 1]? = some F := by
        rw [hB.block _ (by omega)]; simpa using heap_alloc_new (w.alloc C) F
      rw [HC.out] at q0; rw [HF.out] at q1
      have s0' : wr.cell? ⟨w.heap.size, 0, none⟩ = some (.int .i64 st) := by simp [World.cell?, q0]
      have s1' : wr.cell? ⟨w.heap.size, 1, none⟩ = some (.int .i64 lb) := by simp [World.cell?, q0]
      have s2' : wr.cell? ⟨w.heap.size, 2, none⟩ = some (.int .i64 s0) := by simp [World.cell?, q0]
      have s3' : wr.cell? ⟨w.heap.size, 3, none⟩ = some (.slice a xs.length c) := by simp [World.cell?, q0]
      have Q1 := Lib.hid q1
      have hBw : Below w.heap.size w wr := (((Below.refl _ _).alloc (Nat.le_refl _) C).alloc (by simp) F).trans (hB.mono (by omega))
      have hltr : w.heap.size < wr.heap.size := by omega
      clear q0 q1
      by_cases hlt2 : k < xs.length
      · obtain ⟨x, hx⟩ := getElem?_of_lt hlt2
        obtain rfl := hS.ad (by omega)
        have hS' := hS.below hBw (Nat.le_refl _)
        have c0 := hS'.e0 hx; have c1 := hS'.e1 hx; have c2 := hS'.e2 hx
        have hbl := hS'.lt (by omega)
        have HX := Lib.hid hx
        have HS := Lib.hid hS
        clear hx hS hS' hg
        by_cases ho : offB st lb x = true
        · have HO := Lib.hid ho
          go_wp2_with (go_at_call 126; refine (offends_any st lb s0 _ x _).mono ?_; rintro e w1 ⟨rfl, hB1⟩)
          go_ret
          have hall : xs.all (fun x => !offB st lb x) = false := by
            rw [List.all_eq_false]
            exact ⟨x, List.mem_of_getElem? HX.out, by simp [HO.out]⟩
          have hB2 := (hB.alloc hsz _).trans (hB1.mono (by simp; omega))
          refine ⟨by unfold CheckPost; rw [hall]; exact ⟨_, rfl, ⟨w.heap.size + 1, rfl, by rw [hB2.block _ (by omega), ← HF.out]; simpa using heap_alloc_new (w.alloc C) F⟩⟩, (((Below.refl _ _).alloc (Nat.le_refl _) C).alloc (by simp) F).trans (hB2.mono (by omega))⟩
        · have ho' : offB st lb x = false := by simpa using ho
          have HO := Lib.hid ho'
          clear ho
          go_wp2_with (go_at_call 126; refine (offends_any st lb s0 _ x _).mono ?_; rintro e w1 ⟨rfl, hB1⟩)
          go_roundw
          case rel => exact ⟨k + 1, by omega, by go_num, by
            intro j y hj hy
            by_cases hjk : j = k
            · subst hjk
              rw [HX.out] at hy
              simp at hy; subst hy
              exact HO.out
            · exact HZ.out j y (by omega) hy, (hB.alloc hsz _).trans (hB1.mono (by simp; omega))⟩
          case measure => simp [intOf]; omega
      · clear hS hg
        go_wp2
        go_ret
        have hall : xs.all (fun x => !offB st lb x) = true := by
          rw [List.all_eq_true]
          intro x hx
          obtain ⟨j, hj, rfl⟩ := List.getElem_of_mem hx
          simp [HZ.out j _ (by omega) (List.getElem?_eq_getElem hj)]
        exact ⟨by unfold CheckPost; rw [hall]; rfl, hBw⟩

end Go.Proofs.YtkmljelgogcobaaGreatDoor
