/-
  Lemmas.
-/
import Derived.Test.YtbaccmlfnbgehaaGreatDoorGPl6
import Derived.LaidEql
import Derived.Stop.Asserts
import Derived.RowKitTokens
import Derived.Outline
import Derived.Deep.QuietTactic
import Derived.BigQuiet
import Derived.IntWalk
import Derived.Test.YtbaccmlfnbgehaaGreatDoorGPl1
import Derived.Deep.OwnRows
set_option maxRecDepth 100000
open Nat renaming le_refl → l0, lt_of_lt_of_le → l4, div_add_mod' → m1, add_mul → m4
open Array renaming getElem?_eq_some_iff → l1
open List renaming getElem?_eq_some_iff → l2, getElem?_eq_getElem → l5, drop_of_length_le → l6, filter_eq_nil_iff → l7, nil_append → l8, getElem?_take → l9, getElem?_drop → m0, flatMap_cons → m2, length_set → m3
open Option renaming map_eq_some_iff → l3
open Go.Proofs.Tryz
namespace Go.Proofs.YtbaccmlfnbgehaaGreatDoor
open Go.RowKit Pl
theorem k0b (w : World) (o : Obj) (g : Nat) (h : g = w.heap.size) : (w.alloc o).heap[g]? = some o := by subst h; exact heap_alloc_new w o
theorem size_setCell (w : World) (p : Addr) (v : Value) : (w.setCell p v).heap.size = w.heap.size := by simp [World.setCell]
theorem own_below {w w' : World} {base : Nat} {e : TypeId} {k n : Nat} {v : Value} {xs : List Value} (h : w.ownsRow base e k v n xs) (hB : Below w.heap.size w w') : w'.ownsRow base e k v n xs := by
 refine ⟨h.1, ?_⟩
 rcases h.2 with h2 | ⟨g, cap, cur, hv, hb, hg, r⟩
 · exact .inl h2
 · exact .inr ⟨g, cap, cur, hv, hb, by rw [hB.block _ (l1.1 hg).1]; exact hg, r⟩
theorem SlAt.setOther {α : Type} {enc : α -> List Value} {k : Nat} {w : World} {a : Option Addr} {b off : Nat} {xs : List α} (h : SlAt enc k w a b off xs) {p : Addr} (hp : 0 < xs.length -> b ≠ p.block) (v : Value) : SlAt enc k (w.setCell p v) a b off xs :=
  ⟨h.ad, fun hl => by have := h.lt hl; simpa [World.setCell] using this, fun i x hx j u hu => by
    have hl : 0 < xs.length := by have := (l2.1 hx).1; omega
    rw [World.cell?_of_block (w := w) (a := ⟨b, off + i * k + j, none⟩) (Below.heap_setCell _ _ _ _ (hp hl))]
    exact h.cell i x hx j u hu⟩
theorem SlAt.alloc {α : Type} {enc : α -> List Value} {k : Nat} {w : World} {a : Option Addr} {b off : Nat} {xs : List α} (h : SlAt enc k w a b off xs) (o : Obj) : SlAt enc k (w.alloc o) a b off xs :=
  h.below ((Below.refl w.heap.size w).alloc (l0 _) o) (l0 _)
theorem q1w {w : World} {g i j : Nat} {c : Array Value} {e : TypeId} {a b : Value} (h : w.heap[g]? = some (.cells c e (0, 0))) :
    ((w.setCell ⟨g, i, none⟩ a).setCell ⟨g, j, none⟩ b).heap[g]? = some (.cells ((c.setIfInBounds i a).setIfInBounds j b) e (0, 0)) :=
  heap_setCell_same _ g j _ e b (heap_setCell_same w g i c e a h)
theorem j0r {w : World} {base base' : Nat} {e : TypeId} {k : Nat} {v : Value} {n : Nat} {xs : List Value} (h : w.ownsRow base e k v n xs) (hb : base' <= base) : w.ownsRow base' e k v n xs := by
 refine ⟨h.1, ?_⟩
 rcases h.2 with h2 | ⟨g, cap, cur, hv, hg, r⟩
 · exact .inl h2
 · exact .inr ⟨g, cap, cur, hv, Nat.le_trans hb hg, r⟩
theorem j0q {w0 w : World} {B n : Nat} (h : Below B w0 w) : Below B w0 (w.drewN n) := ⟨h.os, h.tape, h.output, h.size, h.block⟩
end Go.Proofs.YtbaccmlfnbgehaaGreatDoor
namespace Go.Proofs.YtbaccmlfnbgehaaGreatDoor
open Go.RowKit Go.Extern.Stop Go.Stop Go.Extern Pl
/-! closed facts: what TypeOf(target).Comparable() gives at such a target; what the assertions find -/
theorem isTypeOf (v : Value) (w : World) : (callFunc 150 #[.iface 278 v]).run prog w = .ok (.value (.iface 227 (.agg #[.pointer (some ⟨22, 278, none⟩)]))) w := by kernel_rfl
theorem isComparable (w : World) : (callFunc 232 #[.agg #[.pointer (some ⟨22, 278, none⟩)]]).run prog w = .ok (.value (.bool true)) w := by kernel_rfl
theorem isMethodComparable (v : Value) (w : World) : (Go.method 408 227 v "Comparable").run prog w = .ok (232, v) w := by kernel_rfl
theorem isComp : (prog.info? 278).map (·.comparable) = some true := by kernel_rfl
theorem isSize : (prog.info? 296).map (·.size) = some 1 := by kernel_rfl
theorem noIsE (v : Value) (xT : TypeId) (w : World) : (Instr.typeAssert (.iface 278 v) xT 229 true).run prog w = .ok (.tuple #[.nilIface, .bool false]) w := run_typeAssert_lacksB underlying229 (by kernel_rfl) (by kernel_rfl) v xT w
theorem noUnwrapE (v : Value) (xT : TypeId) (w : World) : (Instr.typeAssert (.iface 278 v) xT 232 true).run prog w = .ok (.tuple #[.nilIface, .bool false]) w := run_typeAssert_lacksB underlying232 (by kernel_rfl) (by kernel_rfl) v xT w
theorem noUnwrapsE (v : Value) (xT : TypeId) (w : World) : (Instr.typeAssert (.iface 278 v) xT 234 true).run prog w = .ok (.tuple #[.nilIface, .bool false]) w := run_typeAssert_lacksB underlying234 (by kernel_rfl) (by kernel_rfl) v xT w
theorem noIsW (v : Value) (xT : TypeId) (w : World) : (Instr.typeAssert (.iface 85 v) xT 229 true).run prog w = .ok (.tuple #[.nilIface, .bool false]) w := run_typeAssert_lacksB underlying229 (by kernel_rfl) (by kernel_rfl) v xT w
theorem hasUnwrapW (v : Value) (xT : TypeId) (w : World) : (Instr.typeAssert (.iface 85 v) xT 232 true).run prog w = .ok (.tuple #[.iface 85 v, .bool true]) w := run_typeAssert_hasB underlying232 (by kernel_rfl) v xT w
theorem methodUnwrap (v : Value) (w : World) : (Go.method 408 85 v "Unwrap").run prog w = .ok (224, v) w := by kernel_rfl
theorem k1t (pb : Nat) (b : Addr) (w : World) (h1 : w.cell? ⟨pb, 3, none⟩ = some (.iface 278 (.pointer (some b)))) :
    Calls prog 105 #[.iface 85 (.pointer (some ⟨pb, 0, none⟩)), .iface 278 (.pointer (some b))] w fun e w' => e = .returned (.bool true) /\ w = w' := by
 obtain ⟨i, hi, hcmp⟩ := l3.1 isComp
 obtain ⟨j, hj, hjs⟩ := l3.1 isSize
 have tT := isTypeOf
 have cT := isComparable
 have mR := isMethodComparable
 have nE := noIsE
 have uE := noUnwrapE
 have vE := noUnwrapsE
 have nW := noIsW
 have uW := hasUnwrapW
 have mU := methodUnwrap
 have heq := run_eql_iface_ptr_same (P := prog) w b underlying47 underlying278 hi hcmp hj
 have hty := run_eql_iface_types (P := prog) 85 278 (.pointer (some ⟨pb, 0, none⟩)) (.pointer (some b)) underlying47 (by decide) w
 go_enter func105, ntmps105
 go_wp2
 refine wp_loop_rounds 2 ?_
 rw [rounds_succ]
 go_wp2
 rw [rounds_succ]
 go_wp2
 go_ret
 exact ⟨rfl, rfl⟩
theorem u0r (pb : Nat) (b a : Addr) (ca cb : Array Value) (ta tb : TypeId) (w : World) (h1 : w.cell? ⟨pb, 3, none⟩ = some (.iface 278 (.pointer (some a)))) (hne : a ≠ b) (ha : w.heap[a.block]? = some (.cells ca ta (0, 0))) (hb : w.heap[b.block]? = some (.cells cb tb (0, 0))) :
    Calls prog 105 #[.iface 85 (.pointer (some ⟨pb, 0, none⟩)), .iface 278 (.pointer (some b))] w fun e w' => e = .returned (.bool false) /\ w = w' := by
 obtain ⟨i, hi, hcmp⟩ := l3.1 isComp
 obtain ⟨j, hj, hjs⟩ := l3.1 isSize
 have tT := isTypeOf
 have cT := isComparable
 have mR := isMethodComparable
 have nE := noIsE
 have uE := noUnwrapE
 have vE := noUnwrapsE
 have nW := noIsW
 have uW := hasUnwrapW
 have mU := methodUnwrap
 have heq := run_eql_iface_ptr_other (P := prog) w underlying47 underlying278 hi hcmp hj (by rw [hjs]; decide) hne ha hb
 have hty := run_eql_iface_types (P := prog) 85 278 (.pointer (some ⟨pb, 0, none⟩)) (.pointer (some b)) underlying47 (by decide) w
 go_enter func105, ntmps105
 go_wp2
 refine wp_loop_rounds 2 ?_
 rw [rounds_succ]
 go_wp2
 rw [rounds_succ]
 go_wp2
 go_ret
 exact ⟨rfl, rfl⟩
end Go.Proofs.YtbaccmlfnbgehaaGreatDoor
namespace Go.Proofs.YtbaccmlfnbgehaaGreatDoor
open Go.RowKit Pl
theorem q0m {α : Type} {enc : α -> List Value} {k : Nat} {w : World} {a : Option Addr} {b off : Nat} {xs : List α} (hk : ∀ x, (enc x).length = k) (h : SlAt enc k w a b off xs) (j : Nat) (u : Value) (hu : (xs.flatMap enc)[j]? = some u) :
    w.cell? ((⟨b, off, none⟩ : Addr).add j) = some u := by
 have hj := (l2.1 hu).1
 rw [j0b hk] at hj
 have hk0 : 0 < k := by (
 rcases Nat.eq_zero_or_pos k with rfl | h
 · simp at hj
 · exact h)
 have hi : j / k < xs.length := by rw [Nat.div_lt_iff_lt_mul hk0]; exact hj
 obtain ⟨x, hx⟩ := j0a hi
 have hm : j % k < (enc x).length := by rw [hk]; exact Nat.mod_lt _ hk0
 have h1 := j0h hk xs (j / k) x hx (j % k) _ (l5 hm)
 rw [show j / k * k + j % k = j from m1 j k] at h1
 rw [hu] at h1
 have h2 := h.cell (j / k) x hx (j % k) u (by rw [l5 hm, <- h1])
 rw [show off + j / k * k + j % k = off + j by rw [Nat.add_assoc, m1]] at h2
 have hadd : (⟨b, off, none⟩ : Addr).add j = ⟨b, off + j, none⟩ := by unfold Addr.add; split <;> simp_all
 rw [hadd]; exact h2
theorem p1i {w : World} {o : Obj} {a : Addr} {u : Value} (h : w.cell? a = some u) : (w.alloc o).cell? a = some u := by
 rw [World.cell?_alloc_old _ _ _ (Nat.ne_of_lt (World.block_lt_of_cell? _ _ h))]; exact h
theorem y0s {a : Option Addr} {b off c : Nat} {xs : List E} {w : World} (h : SlAt encE 3 w a b off xs) (hl : xs.length <= 1000000) :
    Calls prog 140 #[.slice a xs.length c] w fun e w' => ∃ v, e = .returned v /\ w'.ownsRow w.heap.size 71 3 v xs.length (xs.flatMap encE) /\ Below w.heap.size w w' := by
 cases a with
 | none =>
   have hx : xs = [] := by
     cases xs with
     | nil => rfl
     | cons x l => have := h.ad (by simp); cases this
   subst hx
   have heq := fun (w : World) => Lib.run_eql_slice_nil (P := prog) w 22 71 none 0 c 0 0 underlying22
   clear h
   go_enter func140, ntmps140
   go_wp2
   go_ret
   exact ⟨_, rfl, World.ownsRow_nil _ _ _ _, Below.refl _ _⟩
 | some ad =>
   have heq := fun (w : World) => Lib.run_eql_slice_nil (P := prog) w 22 71 (some ad) xs.length c 0 0 underlying22
   have hnews : ∀ j u, (xs.flatMap encE)[j]? = some u -> w.cell? (ad.add j) = some u := by
     intro j u hu
     have hj := (l2.1 hu).1
     rw [j0b k0q] at hj
     have hp : 0 < xs.length := by cases xs <;> simp at *
     have := h.ad hp
     simp at this; subst this
     exact q0m k0q h j u hu
   have hlen : (xs.flatMap encE).length = xs.length * 3 := j0b k0q xs
   have h1 : ∀ u ∈ xs.flatMap encE, u.oneCell' = true := by
     intro u hu
     obtain ⟨x, _, hx⟩ := List.mem_flatMap.1 hu
     simp [encE] at hx
     rcases hx with rfl | rfl | rfl <;> rfl
   have HN := Lib.hid hnews; have HL := Lib.hid hlen; have H1 := Lib.hid h1
   clear h hnews hlen h1
   generalize xs.flatMap encE = news at *
   go_enter func140, ntmps140
   go_wp2_with (at_builtin; refine p0e rfl _ _ _ rfl x1s ((Below.refl w.heap.size w).alloc (l0 _) _) (by simp) rfl (World.ownsRow_made w #[] 0 (l0 _) (by decide) (by simp)) ad xs.length c news rfl HL.out (fun j u hu => p1i (HN.out j u hu)) H1.out (by omega) (by unfold maxLen; omega) ?_; intro v' w1 hown1 hb1 _)
   go_ret
   exact ⟨_, rfl, by simpa using hown1, hb1⟩
end Go.Proofs.YtbaccmlfnbgehaaGreatDoor
namespace Go.Proofs.YtbaccmlfnbgehaaGreatDoor
open Go.RowKit Pl
theorem eqlE (x y : E) (w : World) : (binOp .eql 71 (.agg #[.int .i64 x.1, .int .i64 x.2.1, .int .i64 x.2.2]) (.agg #[.int .i64 y.1, .int .i64 y.2.1, .int .i64 y.2.2])).run prog w = .ok (.bool (decide (x = y))) w := by
 have u3 := underlying3
 have a3 := Tryz.isAgg3
 have z3 := Tryz.sizeOf3
 have hS : prog.underlying 71 = some (.struct (prog.fieldsOf 71)) := by kernel_rfl
 have hp : prog.stoodInHeld 71 = false := by kernel_rfl
 rw [run_eql_struct, show (10000 : Nat) = 9999 + 1 from rfl, run_equalIn_agg w 9999 71 _ _ hS hp]
 simp only [Program.fieldsOf, underlying71]
 go_simp
 obtain ⟨x1, x2, x3⟩ := x; obtain ⟨y1, y2, y3⟩ := y
 by_cases h1 : x1 = y1 <;> by_cases h2 : x2 = y2 <;> by_cases h3 : x3 = y3 <;> simp [h1, h2, h3]
theorem neqE (x y : E) (w : World) : (binOp .neq 71 (.agg #[.int .i64 x.1, .int .i64 x.2.1, .int .i64 x.2.2]) (.agg #[.int .i64 y.1, .int .i64 y.2.1, .int .i64 y.2.2])).run prog w = .ok (.bool (!decide (x = y))) w := by
 have h := eqlE x y w
 rw [run_eql_struct] at h
 rw [run_neq_struct]
 cases hr : (Op.equalIn 10000 71 (.agg #[.int .i64 x.1, .int .i64 x.2.1, .int .i64 x.2.2]) (.agg #[.int .i64 y.1, .int .i64 y.2.1, .int .i64 y.2.2])).run prog w with
 | ok b w' => rw [hr] at h; simp [Result.andThen] at h ⊢; exact ⟨h.1, h.2⟩
 | halt b w' => rw [hr] at h; simp [Result.andThen] at h
theorem v1z : prog.eqGuardType prog.depth 71 = false := by kernel_rfl
section
variable {α : Type} {enc : α -> List Value} {k : Nat} {w : World} {base g n cap : Nat} {e : TypeId} {xs : List α}
theorem z0e (hk : ∀ x, (enc x).length = k) (h : w.ownsRow base e k (.slice (some ⟨g, 0, none⟩) n cap) xs.length (xs.flatMap enc)) : SlAt enc k w (some ⟨g, 0, none⟩) g 0 xs := by
 obtain ⟨a, c, b, hv, _, _, hs, _⟩ := j0d hk h
 simp only [Value.slice.injEq] at hv
 obtain ⟨rfl, _, _⟩ := hv
 by_cases h0 : 0 < xs.length
 · have := hs.ad h0
   simp at this; subst this
   exact hs
 · have : xs = [] := List.eq_nil_of_length_eq_zero (by omega)
   subst this
   exact p0l _ _ _ _
theorem u1c (hk : ∀ x, (enc x).length = k) : ∀ (xs : List α) (i : Nat) (x : α), i < xs.length -> (xs.set i x).flatMap enc = (xs.flatMap enc).take (i * k) ++ enc x ++ (xs.flatMap enc).drop (i * k + k)
  | [], i, x, h => by simp at h
  | y :: xs, 0, x, _ => by
    simp only [List.set_cons_zero, m2, Nat.zero_mul, List.take_zero, l8, Nat.zero_add]
    rw [List.drop_append_of_le_length (by rw [hk]; omega), l6 (by rw [hk]; omega), l8]
  | y :: xs, i + 1, x, h => by
    simp only [List.set_cons_succ, m2]
    rw [u1c hk xs i x (by simpa using h)]
    rw [m4, Nat.one_mul, List.take_append, List.drop_append, hk]
    rw [List.take_of_length_le (l := enc y) (by rw [hk]; omega), l6 (l := enc y) (by rw [hk]; omega)]
    rw [show i * k + k - k = i * k by omega, show i * k + k + k - k = i * k + k by omega]
    simp
end
theorem p0t {w : World} {base g n m cap k : Nat} {e : TypeId} {xs : List Value} (h : w.ownsRow base e k (.slice (some ⟨g, 0, none⟩) n cap) m xs) (j : Nat) : w.frozen? ⟨g, j, none⟩ = false := by
 rcases h.2 with ⟨h', _⟩ | ⟨g', cap', cur, h', hb, hg, hnc, hcm, hcs, htake⟩
 · simp at h'
 · simp only [Value.slice.injEq, Option.some.injEq, Addr.mk.injEq, and_true] at h'
   obtain ⟨rfl, rfl, rfl⟩ := h'
   simp [World.frozen?, hg]
theorem set3 {l : List Value} {i : Nat} {a b c : Value} (h : i * 3 + 3 <= l.length) : ((l.set (i * 3) a).set (i * 3 + 1) b).set (i * 3 + 2) c = l.take (i * 3) ++ [a, b, c] ++ l.drop (i * 3 + 3) := by
 apply List.ext_getElem?
 intro j
 simp only [List.getElem?_set, m3, List.append_assoc]
 by_cases h1 : j < i * 3
 · rw [if_neg (by omega), if_neg (by omega), if_neg (by omega), List.getElem?_append_left (by simp; omega), l9, if_pos h1]
 · (
 rw [List.getElem?_append_right (by simp; omega)]
 simp only [List.length_take, Nat.min_eq_left (show i * 3 <= l.length by omega)]
 by_cases h2 : j = i * 3
 · subst h2; rw [if_neg (by omega), if_neg (by omega), if_pos rfl, if_pos (by omega)]; simp
 · (
 by_cases h3 : j = i * 3 + 1
 · subst h3; rw [if_neg (by omega), if_pos rfl, if_pos (by omega)]; rw [show i * 3 + 1 - i * 3 = 1 by omega]; rfl
 · (
 by_cases h4 : j = i * 3 + 2
 · subst h4; rw [if_pos rfl, if_pos (by omega), show i * 3 + 2 - i * 3 = 2 by omega]; rfl
 · rw [if_neg (by omega), if_neg (by omega), if_neg (by omega)]
   rw [show j - i * 3 = (j - (i * 3 + 3)) + 1 + 1 + 1 by omega]
   simp only [List.cons_append, l8, List.getElem?_cons_succ, m0]
   congr 1; omega)))
theorem z2b {w : World} {base g n cap : Nat} {e : TypeId} {xs : List E} (h : w.ownsRow base e 3 (.slice (some ⟨g, 0, none⟩) n cap) xs.length (xs.flatMap encE)) (hn : n = xs.length) (i : Nat) (x : E) (hi : i < xs.length) :
    (((w.setCell ⟨g, i * 3, none⟩ (.int .i64 x.1)).setCell ⟨g, i * 3 + 1, none⟩ (.int .i64 x.2.1)).setCell ⟨g, i * 3 + 2, none⟩ (.int .i64 x.2.2)).ownsRow base e 3 (.slice (some ⟨g, 0, none⟩) n cap) (xs.set i x).length ((xs.set i x).flatMap encE) := by
 subst hn
 have h1 := ((h.stored (i * 3) (.int .i64 x.1)).1.stored (i * 3 + 1) (.int .i64 x.2.1)).1.stored (i * 3 + 2) (.int .i64 x.2.2)
 rw [set3 (by rw [j0b k0q]; omega)] at h1
 replace h1 := h1.1
 rw [u1c k0q xs i x hi, m3]
 exact h1
theorem k2e {w0 w : World} {B g i : Nat} {a b c : Value} (h : Below B w0 w) (hg : B <= g) : Below B w0 (((w.setCell ⟨g, i, none⟩ a).setCell ⟨g, i + 1, none⟩ b).setCell ⟨g, i + 2, none⟩ c) :=
  ((h.setCell hg _).setCell hg _).setCell hg _
end Go.Proofs.YtbaccmlfnbgehaaGreatDoor
namespace Go.Proofs.YtbaccmlfnbgehaaGreatDoor
open Go.RowKit Pl
theorem y2k {α : Type} {enc : α -> List Value} {k : Nat} {w : World} {a : Option Addr} {b off : Nat} {xs : List α} (h : SlAt enc k w a b off xs) (lo m : Nat) :
    SlAt enc k w (some ⟨b, off + lo * k, none⟩) b (off + lo * k) ((xs.drop lo).take m) where
  ad _ := rfl
  lt hl := h.lt (by simp at hl; omega)
  cell i x hx j u hu := by
    rw [l9] at hx
    split at hx
    · rw [m0] at hx
      have := h.cell (lo + i) x hx j u hu
      rw [m4] at this
      rw [show off + lo * k + i * k + j = off + (lo * k + i * k) + j by omega]
      exact this
    · cases hx
structure RowsAt (w : World) (va vf : Value) (n : Nat) (all : List S) (fr : Nat -> Nat) : Prop where
  alls : ∃ a c b off, va = .slice a all.length c /\ all.length <= c /\ c <= maxLen /\ SlAt encS 2 w a b off all
  from_ : ∃ b, vf = .slice (some ⟨b, 0, none⟩) (n + 1) (n + 1) /\ b < w.heap.size /\ ∀ i, i <= n -> w.cell? ⟨b, i, none⟩ = some (.int .i64 (fr i))
  mono : ∀ i, i < n -> fr i <= fr (i + 1)
  top : ∀ i, i <= n -> fr i <= all.length
  small : all.length <= 10000
  n_le : n <= 1000
def rowOf (all : List S) (fr : Nat -> Nat) (i : Nat) : List S := (all.drop (fr i)).take (fr (i + 1) - fr i)
theorem RowsAt.below {w w' : World} {va vf : Value} {n : Nat} {all : List S} {fr : Nat -> Nat} (h : RowsAt w va vf n all fr) (hB : Below w.heap.size w w') : RowsAt w' va vf n all fr := by
 obtain ⟨a, c, b, off, h1, h2, h3, h4⟩ := h.alls
 obtain ⟨b', h5, h6, h7⟩ := h.from_
 exact ⟨⟨a, c, b, off, h1, h2, h3, h4.below hB (l0 _)⟩, ⟨b', h5, l4 h6 hB.size, fun i hi => by rw [hB.cell (p := ⟨b', i, none⟩) h6]; exact h7 i hi⟩, h.mono, h.top, h.small, h.n_le⟩
def StepsRet (w' : World) (e : Ending) (ss : List S) : Prop := ∃ a c b off, e = .returned (.slice a ss.length c) /\ ss.length <= c /\ c <= maxLen /\ SlAt encS 2 w' a b off ss
theorem y0w {w' : World} : StepsRet w' (.returned (.slice none 0 0)) [] := ⟨none, 0, 0, 0, rfl, l0 _, by unfold maxLen; omega, p0l _ _ _ _⟩
theorem p2o {w0 w : World} (va vf : Value) {n : Nat} {all : List S} {fr : Nat -> Nat} (h : RowsAt w0 va vf n all fr) (_hB : Below w0.heap.size w0 w) (i : Int) (hi : i < 0 ∨ (n : Int) <= i) :
    Calls prog 163 #[.agg #[va, vf], .int .i64 i] w fun e w' => StepsRet w0 e [] /\ Below w.heap.size w w' := by
 obtain ⟨a, c, b, off, rfl, h2, h3, h4⟩ := h.alls
 obtain ⟨b', rfl, h6, h7⟩ := h.from_
 have hn := h.n_le
 clear h h4 h7 _hB
 rcases hi with hi | hi
 · go_enter func163, ntmps163
   go_wp2
   go_ret
   exact ⟨y0w, (Below.refl _ _).alloc (l0 _) _⟩
 · have hi0 : ¬ i < 0 := by omega
   go_enter func163, ntmps163
   go_wp2
   go_ret
   exact ⟨y0w, (Below.refl _ _).alloc (l0 _) _⟩
theorem row_in {w0 w : World} (va vf : Value) {n : Nat} {all : List S} {fr : Nat -> Nat} (h : RowsAt w0 va vf n all fr) (hB : Below w0.heap.size w0 w) (i : Nat) (hi : i < n) :
    Calls prog 163 #[.agg #[va, vf], .int .i64 i] w fun e w' => StepsRet w0 e (rowOf all fr i) /\ Below w.heap.size w w' := by
 obtain ⟨a, c, b, off, rfl, h2, h3, h4⟩ := h.alls
 obtain ⟨b', rfl, h6, h7⟩ := h.from_
 have hn := h.n_le
 have c0 : w.cell? ⟨b', i, none⟩ = _ := (hB.cell (p := ⟨b', i, none⟩) h6).trans (h7 i (by omega))
 have c1 : w.cell? ⟨b', i + 1, none⟩ = _ := (hB.cell (p := ⟨b', i + 1, none⟩) h6).trans (h7 (i + 1) (by omega))
 replace h6 : b' < w.heap.size := l4 h6 hB.size
 have hm := h.mono i hi
 have ht := h.top (i + 1) (by omega)
 have hs := h.small
 unfold rowOf
 generalize fr i = lo at *
 generalize fr (i + 1) = hi' at *
 have hlen : ((all.drop lo).take (hi' - lo)).length = hi' - lo := by simp; omega
 have k1 : (i : Int) < (n : Int) := by omega
 have k2 : (0 : Int) <= (i : Int) + 1 := by omega
 have k6 : (i : Int) < (n : Int) + 1 := by omega
 have k3 : IntKind.i64.wrap ((i : Int) + 1) = (i : Int) + 1 := IntWalk.i64_in _ (by omega)
 have k4 : ((i : Int) + 1).toNat = i + 1 := by omega
 have k7 : (lo : Int) <= (hi' : Int) := by omega
 have k8 : (hi' : Int) <= (c : Int) := by omega
 by_cases heq : lo = hi'
 · subst heq
   have hrow : (all.drop lo).take (lo - lo) = [] := by simp
   rw [hrow]
   clear h h4 h7 hlen hrow hB
   go_enter func163, ntmps163
   go_wp2_with fail
   go_quiet (fail)
   go_wp2
   all_goals
     go_ret
     exact ⟨⟨a, _, 0, 0, rfl, l0 _, by unfold maxLen; omega, p0l _ _ _ _⟩, below_drewN ((Below.refl _ _).alloc (l0 _) _) _⟩
 · obtain rfl := h4.ad (by omega)
   have k9 : (lo : Int) < (hi' : Int) := by omega
   have k10 : (lo : Int) < (c : Int) := by omega
   have k11 : lo < hi' := by omega
   have H4 := Lib.hid h4; have HL := Lib.hid hlen
   clear h h4 h7 hlen hB
   go_enter func163, ntmps163
   go_wp2_with fail
   go_quiet (fail)
   go_wp2
   go_ret
   refine ⟨⟨some ⟨b, off + lo * 2, none⟩, hi' - lo, b, off + lo * 2, ?_, by rw [HL.out]; exact l0 _, by omega, y2k H4.out lo (hi' - lo)⟩, below_drewN ((Below.refl _ _).alloc (l0 _) _) _⟩
   rw [HL.out]
   first | rfl | (simp; done)
end Go.Proofs.YtbaccmlfnbgehaaGreatDoor
namespace Go.Proofs.YtbaccmlfnbgehaaGreatDoor
open Go.RowKit Pl
def stO (x : E) : S := (x.2.1, x.2.2)
def stI (x : E) : S := (x.2.1, x.1)
structure GraphAt (w : World) (gb : Nat) (s : Lts) : Prop where
  right : s.Right
  srt : Srt ltE s.es
  blk : ∃ ve oa of ia if_ : Value, w.heap[gb]? = some (.cells #[.int .i64 s.st, .int .i64 s.lb, .int .i64 s.s0, ve, oa, of, ia, if_] 179 (0, 0)) /\
    (∃ a c b off, ve = .slice a s.es.length c /\ s.es.length <= c /\ SlAt encE 3 w a b off s.es) /\
    RowsAt w oa of s.st.toNat (s.es.map stO) (frK (fun x => x.1) s.es) /\
    RowsAt w ia if_ s.st.toNat ((nf ltB s.es).map stI) (frK (fun x => x.2.2) (nf ltB s.es))
theorem GraphAt.lt {w : World} {gb : Nat} {s : Lts} (h : GraphAt w gb s) : gb < w.heap.size := by
 obtain ⟨ve, oa, of, ia, if_, h1, _⟩ := h.blk
 exact (l1.1 h1).1
theorem GraphAt.below {w w' : World} {gb : Nat} {s : Lts} (h : GraphAt w gb s) (hB : Below w.heap.size w w') : GraphAt w' gb s := by
 obtain ⟨ve, oa, of, ia, if_, h1, ⟨a, c, b, off, h2, h2', h3⟩, h4, h5⟩ := h.blk
 exact ⟨h.right, h.srt, ve, oa, of, ia, if_, by rw [hB.block _ h.lt]; exact h1, ⟨a, c, b, off, h2, h2', h3.below hB (l0 _)⟩, h4.below hB, h5.below hB⟩
theorem p1z (key : E -> Int) (f : E -> S) (l : List E) (h : l.Pairwise (fun a b => key a <= key b)) (i : Nat) : rowOf (l.map f) (frK key l) i = (l.filter (fun x => key x == (i : Int))).map f := by
 unfold rowOf
 rw [<- List.map_drop, <- List.map_take]
 congr 1
 exact piece i l h
theorem z2c {s : Lts} (h : s.Right) {i : Int} (hi : i < 0 ∨ s.st <= i) : s.outs i = [] := by
 unfold Lts.outs
 have : s.es.filter (fun x => x.1 == i) = [] := by (
 rw [l7]; intro x hx
 have := j0g.1 (h.edges x hx)
 simp; omega)
 rw [this]; rfl
theorem j3t {s : Lts} (h : s.Right) {i : Int} (hi : i < 0 ∨ s.st <= i) : s.ins i = [] := by
 unfold Lts.ins
 have : (nf ltB s.es).filter (fun x => x.2.2 == i) = [] := by (
 rw [l7]; intro x hx
 have := j0g.1 (h.edges x ((p0j x2z x s.es).1 hx))
 simp; omega)
 rw [this]; rfl
theorem y2p {w0 w : World} (hB : Below w0.heap.size w0 w) {va vf : Value} {s : Lts} (hr : s.Right) (hs : Srt ltE s.es) (h : RowsAt w0 va vf s.st.toNat (s.es.map stO) (frK (fun x => x.1) s.es)) (i : Int) :
    Calls prog 163 #[.agg #[va, vf], .int .i64 i] w fun e w' => StepsRet w0 e (s.outs i) /\ Below w.heap.size w w' := by
 have h0 := hr.st0
 by_cases hi : i < 0 ∨ s.st <= i
 · rw [z2c hr hi]
   exact p2o va vf h hB i (by omega)
 · obtain ⟨n, rfl⟩ := Int.eq_ofNat_of_zero_le (show 0 <= i by omega)
   have := row_in va vf h hB n (by omega)
   rw [p1z (fun x => x.1) stO s.es (y2h hs)] at this
   exact this
theorem u2y {w0 w : World} (hB : Below w0.heap.size w0 w) {va vf : Value} {s : Lts} (hr : s.Right) (h : RowsAt w0 va vf s.st.toNat ((nf ltB s.es).map stI) (frK (fun x => x.2.2) (nf ltB s.es))) (i : Int) :
    Calls prog 163 #[.agg #[va, vf], .int .i64 i] w fun e w' => StepsRet w0 e (s.ins i) /\ Below w.heap.size w w' := by
 have h0 := hr.st0
 by_cases hi : i < 0 ∨ s.st <= i
 · rw [j3t hr hi]
   exact p2o va vf h hB i (by omega)
 · obtain ⟨n, rfl⟩ := Int.eq_ofNat_of_zero_le (show 0 <= i by omega)
   have := row_in va vf h hB n (by omega)
   rw [p1z (fun x => x.2.2) stI (nf ltB s.es) (y2i (x0d x2z _))] at this
   exact this
theorem p1e {w0 w : World} {gb : Nat} {s : Lts} (h : GraphAt w0 gb s) (hB0 : Below w0.heap.size w0 w) (i : Int) :
    Calls prog 132 #[.pointer (some ⟨gb, 0, none⟩), .int .i64 i] w fun e w' => StepsRet w0 e (s.outs i) /\ Below w.heap.size w w' := by
 obtain ⟨ve, oa, of, ia, if_, h1, _, h4, _⟩ := h.blk
 have h1' := (hB0.block gb h.lt).trans h1
 have c4 : w.cell? ⟨gb, 4, none⟩ = some oa := by simp [World.cell?, h1']
 have c5 : w.cell? ⟨gb, 5, none⟩ = some of := by simp [World.cell?, h1']
 have hR := y2p hB0 h.right h.srt h4 i
 have HR := Lib.hid hR
 clear h h1 h1' h4 hR hB0
 go_enter func132, ntmps132
 go_wp2_with (go_at_call 163; refine (HR.out).mono ?_; rintro e w1 ⟨⟨a, c, b, off, rfl, hrest⟩, hB⟩; have HREST := Lib.hid hrest; clear hrest)
 go_ret
 exact ⟨⟨a, c, b, off, rfl, HREST.out⟩, hB⟩
theorem u1l {w0 w : World} {gb : Nat} {s : Lts} (h : GraphAt w0 gb s) (hB0 : Below w0.heap.size w0 w) (i : Int) :
    Calls prog 195 #[.pointer (some ⟨gb, 0, none⟩), .int .i64 i] w fun e w' => StepsRet w0 e (s.ins i) /\ Below w.heap.size w w' := by
 obtain ⟨ve, oa, of, ia, if_, h1, _, _, h5⟩ := h.blk
 have h1' := (hB0.block gb h.lt).trans h1
 have c4 : w.cell? ⟨gb, 6, none⟩ = some ia := by simp [World.cell?, h1']
 have c5 : w.cell? ⟨gb, 7, none⟩ = some if_ := by simp [World.cell?, h1']
 have hR := u2y hB0 h.right h5 i
 have HR := Lib.hid hR
 clear h h1 h1' h5 hR hB0
 go_enter func195, ntmps195
 go_wp2_with (go_at_call 163; refine (HR.out).mono ?_; rintro e w1 ⟨⟨a, c, b, off, rfl, hrest⟩, hB⟩; have HREST := Lib.hid hrest; clear hrest)
 go_ret
 exact ⟨⟨a, c, b, off, rfl, HREST.out⟩, hB⟩
end Go.Proofs.YtbaccmlfnbgehaaGreatDoor
namespace Go.Proofs.YtbaccmlfnbgehaaGreatDoor
open Go.RowKit Pl
theorem j0u {P : Program} {w : World} {ops : Array Oper} {rest : List Oper} {o : Oper} {a : Act} {Q : Exit -> Act -> World -> Prop} (hgd : o.guard = none) (s x : Operand) (t : TypeId)
    (ho : o.op = .call { callee := .builtin .append, args := #[s, x], argTypes := #[t, t] })
    {e : TypeId} {size bytes : Nat} {z : Value} (R : IsRow P t e size bytes z) {base : Nat} (hb0 : base <= w.heap.size)
    {v : Value} {n : Nat} {xs : List Value} (hs : a.eval s = v) (hown : w.ownsRow base e size v n xs)
    (ad : Addr) (m c : Nat) (news : List Value) (hx : a.eval x = .slice (some ad) m c) (hl : news.length = m * size) (hnews : ∀ j u, news[j]? = some u -> w.cell? (ad.add j) = some u) (h1 : ∀ u ∈ news, u.oneCell' = true) (hm : 0 < m)
    (hbytes : (n + m) * bytes <= 140737488355328) (hmax : n + m <= maxLen) (H : Nat) (hH : w.heap.size = H)
    (h : ∀ g cap w', w'.ownsRow base e size (.slice (some ⟨g, 0, none⟩) (n + m) cap) (n + m) (xs ++ news) -> w.grownBy w' v.ownBlock -> (v.ownBlock = some g ∨ g = H) -> g < w'.heap.size -> wpList P ops Q rest (a.put o.dst (.slice (some ⟨g, 0, none⟩) (n + m) cap)) w') : wpList P ops Q (o :: rest) a w := by
 obtain ⟨i, hi, hz, hsz, hby⟩ := R.info
 exact wpList_plain hgd fun _ hK => wp_append_lies w s x t ho base e i z size bytes R.ht hi hz hsz hby R.zs R.pos v n xs hs hown ad m c news hx hl hnews h1 hm hmax hbytes hb0 H hH (fun g cap w' h2 h3 h4 h5 => hK _ _ (h g cap w' h2 h3 h4 h5))
section
variable {α : Type} {enc : α -> List Value} {k : Nat} {e T : TypeId} {w w' : World} {base ob n : Nat} {f : Nat -> List α}
structure OwnRows (enc : α -> List Value) (k : Nat) (e T : TypeId) (w : World) (base ob n : Nat) (f : Nat -> List α) : Prop where
  ex : ∃ vs : Nat -> Value, w.rowIs ob T n vs /\ (∀ p, p < n -> w.ownsRow base e k (vs p) (f p).length ((f p).flatMap enc)) /\
    (∀ p q g, p < n -> q < n -> p ≠ q -> (vs p).ownBlock = some g -> (vs q).ownBlock ≠ some g)
  lt : ob < base
theorem OwnRows.made {w : World} {n : Nat} : OwnRows enc k e T (w.alloc (.cells (madeCells #[.slice none 0 0] n) T)) (w.heap.size + 1) w.heap.size n (fun _ => []) where
  ex := ⟨fun _ => .slice none 0 0, World.rowIs_made w (.slice none 0 0) n T, fun p _ => ⟨by simp, .inl ⟨rfl, rfl⟩⟩, fun p q g _ _ _ h => by simp [Value.ownBlock] at h⟩
  lt := by omega
theorem OwnRows.kept (h : OwnRows enc k e T w base ob n f) (hs : ∀ b, b = ob ∨ base <= b -> b < w.heap.size -> w'.heap[b]? = w.heap[b]?) : OwnRows enc k e T w' base ob n f := by
 obtain ⟨vs, h1, h2, h3⟩ := h.ex
 refine ⟨⟨vs, h1.of_block (hs ob (.inl rfl) h1.lt), fun p hp => ?_, h3⟩, h.lt⟩
 have h4 := h2 p hp
 refine ⟨h4.1, ?_⟩
 rcases h4.2 with h5 | ⟨g, cap, cur, hv, hg, hh, r⟩
 · exact .inl h5
 · exact .inr ⟨g, cap, cur, hv, hg, by rw [hs g (.inr hg) (l1.1 hh).1]; exact hh, r⟩
theorem OwnRows.call (h : OwnRows enc k e T w base ob n f) (hB : Below w.heap.size w w') : OwnRows enc k e T w' base ob n f :=
  h.kept (fun b _ hb => hB.block b hb)
theorem OwnRows.alloc (h : OwnRows enc k e T w base ob n f) (o : Obj) : OwnRows enc k e T (w.alloc o) base ob n f :=
  h.call ((Below.refl _ _).alloc (l0 _) o)
theorem OwnRows.drewN (h : OwnRows enc k e T w base ob n f) (m : Nat) : OwnRows enc k e T (w.drewN m) base ob n f := h.kept (fun _ _ _ => rfl)
theorem OwnRows.setOther (h : OwnRows enc k e T w base ob n f) {a : Addr} (h1 : a.block ≠ ob) (h2 : a.block < base) (v : Value) : OwnRows enc k e T (w.setCell a v) base ob n f :=
  h.kept (fun b hb _ => Below.heap_setCell _ _ _ _ (by rcases hb with rfl | hb <;> omega))
theorem OwnRows.size (h : OwnRows enc k e T w base ob n f) : ob < w.heap.size := by obtain ⟨vs, h1, _⟩ := h.ex; exact h1.lt
theorem OwnRows.at (h : OwnRows enc k e T w base ob n f) {p : Nat} (hp : p < n) : ∃ v, w.cell? ⟨ob, p, none⟩ = some v /\ w.frozen? ⟨ob, p, none⟩ = false /\ w.ownsRow base e k v (f p).length ((f p).flatMap enc) := by
 obtain ⟨vs, h1, h2, _⟩ := h.ex
 exact ⟨vs p, h1.cell hp, h1.frozen p, h2 p hp⟩
theorem OwnRows.open (h : OwnRows enc k e T w base ob n f) {p : Nat} (hp : p < n) : ∃ v, w.cell? ⟨ob, p, none⟩ = some v /\ w.frozen? ⟨ob, p, none⟩ = false /\ w.ownsRow base e k v (f p).length ((f p).flatMap enc) /\
    ∀ (w1 w2 : World) (g cap : Nat) (ys : List α), Below w.heap.size w w1 -> base <= w1.heap.size -> w2.ownsRow base e k (.slice (some ⟨g, 0, none⟩) ys.length cap) ys.length (ys.flatMap enc) -> w1.grownBy w2 v.ownBlock -> (v.ownBlock = some g ∨ w.heap.size <= g) ->
      w2.cell? ⟨ob, p, none⟩ = some v /\ w2.frozen? ⟨ob, p, none⟩ = false /\
      OwnRows enc k e T (w2.setCell ⟨ob, p, none⟩ (.slice (some ⟨g, 0, none⟩) ys.length cap)) base ob n (fun i => if i = p then ys else f i) := by
 obtain ⟨vs, h1, h2, h3⟩ := h.ex
 refine ⟨vs p, h1.cell hp, h1.frozen p, h2 p hp, fun w1 w2 g cap ys hB hbs hown hg hgg => ?_⟩
 have hob : (vs p).ownBlock ≠ some ob := fun e => by
   have := ((h2 p hp).lt ob e).1; have := h.lt; omega
 have hobl : ob < w1.heap.size := l4 h1.lt hB.size
 have hrow2 : w2.rowIs ob T n vs := (h1.of_block (hB.block ob h1.lt)).of_block (hg.block ob hobl (fun e => hob e.symm))
 refine ⟨hrow2.cell hp, hrow2.frozen p, ⟨fun i => if i = p then .slice (some ⟨g, 0, none⟩) ys.length cap else vs i, hrow2.set p _, fun q hq => ?_, ?_⟩, h.lt⟩
 · (
 by_cases e : q = p
 · subst e
   simp only [if_true]
   exact ownsRow_setCell_below hown h.lt _
 · (
 simp only [if_neg e]
 have h4 := h2 q hq
 refine ⟨h4.1, ?_⟩
 rcases h4.2 with h5 | ⟨gq, capq, cur, hv, hgq, hh, r⟩
 · exact .inl h5
 · (
 refine .inr ⟨gq, capq, cur, hv, hgq, ?_, r⟩
 have hlt := (l1.1 hh).1
 have hl := h.lt
 have hqb : (vs q).ownBlock = some gq := by rw [hv]; rfl
 rw [Below.heap_setCell _ _ _ _ (by show gq ≠ ob; omega), hg.block gq (l4 hlt hB.size) (fun e2 => h3 q p gq hq hp e hqb e2.symm), hB.block gq hlt]
 exact hh)))
 · (
 intro a b gg ha hb hab hga
 have key : ∀ q, q < n -> q ≠ p -> (vs q).ownBlock ≠ some g := by (
 intro q hq hqp e2
 rcases hgg with e1 | e1
 · exact h3 p q g hp hq (Ne.symm hqp) e1 e2
 · have := ((h2 q hq).lt g e2).2; omega)
 by_cases e1 : a = p
 · subst e1
   simp only [if_true, Value.ownBlock, Option.some.injEq] at hga
   subst hga
   simp only [if_neg (Ne.symm hab)]
   exact key b hb (Ne.symm hab)
 · (
 simp only [if_neg e1] at hga
 by_cases e2 : b = p
 · (
 subst e2
 simp only [if_true, Value.ownBlock]
 intro e3
 simp only [Option.some.injEq] at e3
 subst e3
 exact key a ha e1 hga)
 · simp only [if_neg e2]; exact h3 a b gg ha hb hab hga))
end
end Go.Proofs.YtbaccmlfnbgehaaGreatDoor
