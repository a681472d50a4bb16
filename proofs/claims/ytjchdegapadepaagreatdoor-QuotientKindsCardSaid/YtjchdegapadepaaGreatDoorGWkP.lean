/-
  Lemmas.
-/
import Derived.Test.YtjchdegapadepaaGreatDoorGTauK
import Derived.Test.YtjchdegapadepaaGreatDoorGPl6
import Derived.Test.YtjchdegapadepaaGreatDoorGRefSig
import Derived.Test.YtjchdegapadepaaGreatDoorGForms
import Derived.Test.YtjchdegapadepaaGreatDoorRefOut
import Derived.Test.YtjchdegapadepaaGreatDoorGTauJ
set_option maxRecDepth 100000
namespace Go.Proofs.YtjchdegapadepaaGreatDoor
namespace Pl
def one (s : Lts) (m : Nat) (l : Int) (t : Nat) : Prop := (l = 0 /\ t = m) ∨ (l ≠ 0 /\ stp s m l t)
def wst (s : Lts) (p : Nat) (l : Int) (q : Nat) : Prop := ∃ m t, TR s p m /\ one s m l t /\ TR s t q
section
variable {s : Lts} {n : Nat}
end
/-! the saturated system -/
def KOk (s : Lts) (n lb : Nat) (K : Nat -> Nat -> Nat -> Bool) : Prop := ∀ p l q, p < n -> l < lb -> q < n -> (K p l q = true ↔ wst s p (l : Int) q)
def satE (n lb : Nat) (K : Nat -> Nat -> Nat -> Bool) : List E := (List.range n).flatMap fun p => (List.range lb).flatMap fun l => (idsN (K p l) n).map fun q : Nat => ((p : Int), (l : Int), (q : Int))
def satS (s : Lts) (n lb : Nat) (K : Nat -> Nat -> Nat -> Bool) : Lts := ⟨s.st, s.lb, s.s0, satE n lb K⟩
section
variable {s : Lts} {n lb : Nat} {K : Nat -> Nat -> Nat -> Bool}
theorem z1m {x : E} : x ∈ satE n lb K ↔ ∃ p l q : Nat, x = ((p : Int), (l : Int), (q : Int)) /\ p < n /\ l < lb /\ q < n /\ K p l q = true := by
 unfold satE
 simp only [List.mem_flatMap, List.mem_map, List.mem_range, mem_idsN]
 constructor
 · rintro ⟨p, hp, l, hl, q, ⟨hq, hk⟩, rfl⟩
   exact ⟨p, l, q, rfl, hp, hl, hq, hk⟩
 · rintro ⟨p, l, q, rfl, hp, hl, hq, hk⟩
   exact ⟨p, hp, l, hl, q, ⟨hq, hk⟩, rfl⟩
theorem z1e : Srt ltE (satE n lb K) := by
 have hr : ∀ m, (List.range m).Pairwise (· < ·) := fun m => List.pairwise_lt_range
 unfold satE Srt
 rw [List.pairwise_flatMap]
 refine ⟨fun p _ => ?_, (hr n).imp ?_⟩
 · (
 rw [List.pairwise_flatMap]
 refine ⟨fun l _ => ?_, (hr lb).imp ?_⟩
 · rw [List.pairwise_map]
   refine List.Pairwise.imp ?_ (List.Pairwise.sublist List.filter_sublist (hr n))
   intro a b hab
   exact (p0b _ _).2 (.inr ⟨rfl, .inr ⟨rfl, by show (a : Int) < (b : Int); omega⟩⟩)
 · intro a b hab x hx y hy
   obtain ⟨c, _, rfl⟩ := List.mem_map.1 hx
   obtain ⟨d, _, rfl⟩ := List.mem_map.1 hy
   exact (p0b _ _).2 (.inr ⟨rfl, .inl (by show (a : Int) < (b : Int); omega)⟩))
 · (
 intro a b hab x hx y hy
 obtain ⟨l, _, hx⟩ := List.mem_flatMap.1 hx
 obtain ⟨c, _, rfl⟩ := List.mem_map.1 hx
 obtain ⟨l', _, hy⟩ := List.mem_flatMap.1 hy
 obtain ⟨d, _, rfl⟩ := List.mem_map.1 hy
 exact (p0b _ _).2 (.inl (by show (a : Int) < (b : Int); omega)))
theorem v1p {K' : Nat -> Nat -> Nat -> Bool} (h : ∀ p l q, p < n -> l < lb -> q < n -> K p l q = K' p l q) : satE n lb K = satE n lb K' := by
 refine x0b p0p _ _ z1e z1e (fun x => ?_)
 rw [z1m, z1m]
 constructor <;> rintro ⟨p, l, q, rfl, hp, hl, hq, hk⟩ <;> refine ⟨p, l, q, rfl, hp, hl, hq, ?_⟩
 · rw [<- h p l q hp hl hq]; exact hk
 · rw [h p l q hp hl hq]; exact hk
theorem KOk.eq {K' : Nat -> Nat -> Nat -> Bool} (h : KOk s n lb K) (h' : KOk s n lb K') : satE n lb K = satE n lb K' :=
  v1p (fun p l q hp hl hq => by
    have h1 := h p l q hp hl hq
    have h2 := h' p l q hp hl hq
    cases e : K p l q <;> cases e' : K' p l q
    · rfl
    · rw [e'] at h2; rw [e] at h1; exact absurd (h1.2 (h2.1 rfl)) (by simp)
    · rw [e'] at h2; rw [e] at h1; exact absurd (h2.2 (h1.1 rfl)) (by simp)
    · rfl)
end
/-! strong bisimilarity by rounds -/
def NextS (u : Nat -> Int -> Nat -> Prop) (n : Nat) (C D : Nat -> Int) : Prop :=
  ∀ p q, p < n -> q < n -> (D p = D q ↔ C p = C q /\ ∀ l e, (∃ t, t < n /\ u p l t /\ C t = e) ↔ (∃ t, t < n /\ u q l t /\ C t = e))
def HoldsS (s : Lts) (n : Nat) (C : Nat -> Int) : Prop := ∀ R, IsBis s n R -> ∀ p q, p < n -> q < n -> R p q -> C p = C q
section
variable {s : Lts} {n : Nat} {C D : Nat -> Int}
theorem HoldsS.zero : HoldsS s n (fun _ => 0) := fun _ _ _ _ _ _ _ => rfl
theorem HoldsS.next (h : HoldsS s n C) (hd : NextS (stp s) n C D) : HoldsS s n D := fun R hR p q hp hq e => by
  refine (hd p q hp hq).2 ⟨h R hR p q hp hq e, fun l c => ?_⟩
  obtain ⟨h1, h2⟩ := hR p q hp hq e
  constructor
  · rintro ⟨t, ht, hs, rfl⟩
    obtain ⟨u, hu, h3, h4⟩ := h1 l t ht hs
    exact ⟨u, hu, h3, (h R hR t u ht hu h4).symm⟩
  · rintro ⟨t, ht, hs, rfl⟩
    obtain ⟨u, hu, h3, h4⟩ := h2 l t ht hs
    exact ⟨u, hu, h3, h R hR u t hu ht h4⟩
theorem HoldsS.done (h : HoldsS s n C) (hd : NextS (stp s) n C D) (he : ∀ p, p < n -> D p = C p) : Big s n C where
  bis p q hp hq e := by
    have h1 := ((hd p q hp hq).1 (by rw [he p hp, he q hq]; exact e)).2
    refine ⟨fun l t ht hs => ?_, fun l u hu hs => ?_⟩
    · obtain ⟨u, hu, h2, h3⟩ := (h1 l (C t)).1 ⟨t, ht, hs, rfl⟩
      exact ⟨u, hu, h2, h3.symm⟩
    · obtain ⟨t, ht, h2, h3⟩ := (h1 l (C u)).2 ⟨u, hu, hs, rfl⟩
      exact ⟨t, ht, h2, h3⟩
  all := h
theorem u1l {u : Nat -> Int -> Nat -> Prop} (hd : NextS u n C D) (h1 : canon (fl n C) = fl n C) (h2 : canon (fl n D) = fl n D) (hne : fl n D ≠ fl n C) : (dist (fl n C)).length < (dist (fl n D)).length := by
 have href : ∀ p q, p < n -> q < n -> D p = D q -> C p = C q := fun p q hp hq e => ((hd p q hp hq).1 e).1
 by_cases h : ∀ p q, p < n -> q < n -> C p = C q -> D p = D q
 · exact absurd (p0m h2 h1 (fun p q hp hq => ⟨href p q hp hq, h p q hp hq⟩)) hne
 · (
 have : ∃ a b, a < n /\ b < n /\ C a = C b /\ D a ≠ D b := by (
 apply Classical.byContradiction
 intro hno
 exact h (fun p q hp hq e => Classical.byContradiction (fun e2 => hno ⟨p, q, hp, hq, e, e2⟩)))
 obtain ⟨a, b, ha, hb, e1, e2⟩ := this
 exact y0n href ha hb e1 e2)
end
/-! branching bisimilarity lies within it -/
section
variable {s : Lts} {n lb : Nat} {K : Nat -> Nat -> Nat -> Bool} {C : Nat -> Int}
end
end Pl
end Go.Proofs.YtjchdegapadepaaGreatDoor
namespace Go.Proofs.YtjchdegapadepaaGreatDoor
open Go.RowKit Pl
namespace Pl
section
variable {s : Lts} {n : Nat}
theorem j1z {p : Nat} {x : S} : x ∈ s.norm.outs (p : Int) ↔ ((p : Int), x.1, x.2) ∈ s.es := by
 rw [j0j]
 show _ ∈ nf ltE s.es ↔ _
 rw [j0t p0p]
theorem x2n {f : Nat -> Int} {t : Nat} (h : t < n) : atL (fl n f) (t : Int) = f t := by
 unfold atL
 rw [Int.toNat_natCast, List.getD_eq_getElem?_getD, j0h f h]; rfl
theorem outs_ok9 (hr : s.Right) (hn : s.st = (n : Int)) (p : Nat) : (s.norm.outs (p : Int)).length <= 20000 /\ ∀ x ∈ s.norm.outs (p : Int), 0 <= x.1 /\ x.1 <= 201 /\ 0 <= x.2 /\ x.2 < (n : Int) := by
 have hst := hr.st0
 refine ⟨?_, fun x hx => ?_⟩
 · have h1 := hr.norm.st0
   unfold Lts.outs
   rw [List.length_map]
   have := List.length_filter_le (fun x : E => x.1 == (p : Int)) s.norm.es
   omega
 · have h1 := j0e.1 (hr.edges _ (j1z.1 hx))
   simp only at h1
   omega
theorem next_str (hr : s.Right) (hn : s.st = (n : Int)) {C : Nat -> Int} (hC : ∀ p, p < n -> 0 <= C p /\ C p <= 1000) : NextS (stp s) n C (clf n (fun i => (rep (nkey (fl n C) (fun p => s.norm.outs (p : Int))) i : Int))) := by
 intro p q hp hq
 have hgd : ∀ {p : Nat}, p < n -> (fl n C).getD p 0 = C p := fun {p} h => by rw [List.getD_eq_getElem?_getD, j0h C h]; rfl
 have hm : ∀ {p : Nat}, ∀ v : Int, v ∈ (s.norm.outs (p : Int)).map (sgv (fl n C)) ↔ ∃ (l : Int) (t : Nat), t < n /\ stp s p l t /\ v = l * 1001 + C t := fun {p} v => by (
 rw [List.mem_map]
 constructor
 · (
 rintro ⟨x, hx, rfl⟩
 have h1 := j1z.1 hx
 have h2 := j0e.1 (hr.edges _ h1)
 simp only at h2
 obtain ⟨l, t⟩ := x
 obtain ⟨t, rfl⟩ := Int.eq_ofNat_of_zero_le h2.2.2.2.2.1
 have ht : t < n := by omega
 exact ⟨l, t, ht, h1, by unfold sgv; rw [x2n ht]⟩)
 · rintro ⟨l, t, h1, h2, rfl⟩
   exact ⟨(l, (t : Int)), j1z.2 h2, by unfold sgv; rw [x2n h1]⟩)
 have hdir : ∀ {p q : Nat}, (∀ v : Int, v ∈ (s.norm.outs (p : Int)).map (sgv (fl n C)) -> v ∈ (s.norm.outs (q : Int)).map (sgv (fl n C))) -> ∀ l e, (∃ t, t < n /\ stp s p l t /\ C t = e) -> ∃ t, t < n /\ stp s q l t /\ C t = e := by (
 rintro p q h l e ⟨t, ht, h1, rfl⟩
 obtain ⟨l', t', h3, h4, h5⟩ := (hm _).1 (h _ ((hm _).2 ⟨l, t, ht, h1, rfl⟩))
 have c1 := hC t ht
 have c2 := hC t' h3
 obtain rfl : l = l' := by omega
 exact ⟨t', h3, h4, by omega⟩)
 rw [v0k (f := fun i => (rep (nkey (fl n C) (fun p => s.norm.outs (p : Int))) i : Int)) hp hq]
 simp only [Int.ofNat_inj, j1j]
 unfold nkey
 rw [Prod.mk.injEq, hgd hp, hgd hq]
 refine and_congr_right (fun _ => ?_)
 have hnf : nf ltI ((s.norm.outs (p : Int)).map (sgv (fl n C))) = nf ltI ((s.norm.outs (q : Int)).map (sgv (fl n C))) ↔ ∀ v : Int, v ∈ (s.norm.outs (p : Int)).map (sgv (fl n C)) ↔ v ∈ (s.norm.outs (q : Int)).map (sgv (fl n C)) := by (
 constructor
 · intro h v
   rw [<- j0t x1k v ((s.norm.outs (p : Int)).map (sgv (fl n C))), h, j0t x1k]
 · intro h
   exact y0z x1k h)
 rw [hnf]
 constructor
 · intro h l e
   exact ⟨hdir (fun v hv => (h v).1 hv) l e, hdir (fun v hv => (h v).2 hv) l e⟩
 · (
 intro h v
 rw [hm, hm]
 constructor
 · rintro ⟨l, t, h1, h2, rfl⟩
   obtain ⟨t', h4, h5, h6⟩ := (h l (C t)).1 ⟨t, h1, h2, rfl⟩
   exact ⟨l, t', h4, h5, by rw [h6]⟩
 · rintro ⟨l, t, h1, h2, rfl⟩
   obtain ⟨t', h4, h5, h6⟩ := (h l (C t)).2 ⟨t, h1, h2, rfl⟩
   exact ⟨l, t', h4, h5, by rw [h6]⟩)
theorem big_eq9 {C D : Nat -> Int} (h1 : Big s n C) (c1 : canon (fl n C) = fl n C) (h2 : Big s n D) (c2 : canon (fl n D) = fl n D) : fl n C = fl n D :=
  p0m c1 c2 (fun p q hp hq => ⟨fun e => h2.all _ h1.bis p q hp hq e, fun e => h1.all _ h2.bis p q hp hq e⟩)
end
end Pl
end Go.Proofs.YtjchdegapadepaaGreatDoor
namespace Go.Proofs.YtjchdegapadepaaGreatDoor
open Go.RowKit Pl
open Lib (hid)
theorem rowII9 : IsRow Tryz.prog 55 27 1 24 (.slice none 0 0) := p0f Tryz.underlying55 (by kernel_rfl) rfl (by decide)
set_option maxHeartbeats 8000000 in
theorem v0y {s : Lts} {n : Nat} (hr : s.Right) (hn : s.st = (n : Int)) {a : Option Addr} {b off c : Nat} {w : World} (hS : SlAt encE 3 w a b off s.es) (hc : s.es.length <= c) (hcm : c <= maxLen) :
    Calls Tryz.prog 24 #[.agg #[.int .i64 s.st, .int .i64 s.lb, .int .i64 s.s0, .slice a s.es.length c]] w fun e w' => ∃ (ra : Option Addr) (rc m : Nat) (xs : List Value) (cb : Nat) (C : Nat -> Int), e = .returned (.slice ra (m + 1) rc) /\ w'.ownsRow w.heap.size 27 1 (.slice ra (m + 1) rc) (m + 1) xs /\ m <= 2000 /\ xs[m]? = some (.slice (some ⟨cb, 0, none⟩) n n) /\ SlAt encI 1 w' (some ⟨cb, 0, none⟩) cb 0 (fl n C) /\ Big s n C /\ canon (fl n C) = fl n C /\ w.heap.size <= cb /\ Below w.heap.size w w' := by
 have hst := hr.st0
 have hn1 : n <= 1000 := by omega
 have hmk := run_make_row' (P := Tryz.prog) 27 3 (.int .i64 0) 8 Tryz.underlying27 (by kernel_rfl) rfl .i64 .i64 n (by omega) (by omega)
 obtain ⟨W, hW⟩ : ∃ W, W = w.alloc (Obj.cells #[.int .i64 s.st, .int .i64 s.lb, .int .i64 s.s0, .slice a s.es.length c] 24) := ⟨_, rfl⟩
 have hB0 : Below w.heap.size w W := by rw [hW]; exact (Below.refl w.heap.size w).alloc (Nat.le_refl _) _
 have hbx := heap_alloc_new w (Obj.cells #[.int .i64 s.st, .int .i64 s.lb, .int .i64 s.s0, .slice a s.es.length c] 24)
 rw [<- hW] at hbx
 have HOU : Hid (Calls Tryz.prog 41 #[.agg #[.int .i64 s.st, .int .i64 s.lb, .int .i64 s.s0, .slice a s.es.length c]] W fun e w' => ∃ ob, e = .returned (.slice (some ⟨ob, 0, none⟩) n n) /\ StepsIn w' ob n (fun p => s.norm.outs (p : Int)) /\ Below W.heap.size W w') := hid (by (
 refine (x0z hr (hS.below hB0 (Nat.le_refl _)) hc hcm).mono ?_
 rintro e w' ⟨ob, n', base, hn', rfl, hrows, _, hB⟩
 obtain rfl : n = n' := by omega
 exact ⟨ob, rfl, StepsIn.of hrows, hB⟩))
 obtain ⟨el, hel⟩ : ∃ el, el = s.es.length := ⟨_, rfl⟩
 rw [hn, <- hel] at HOU hbx hW
 rw [hn, <- hel]
 have HWE := hid hW; have HB0 := hid hB0; have HBX := hid hbx; have HR := hid hr; have HN := hid hn
 obtain ⟨x0, x1, x2, x3, x4⟩ := x0v hbx
 clear hW hB0 hbx hr hn hS hc hcm hst hel
 go_enter Tryz.func24, Tryz.ntmps24
 go_wp2_with fail
 rw [<- HWE.out]
 refine HOU.out.mono ?_
 rintro e w1 ⟨ob, rfl, hso, hB1⟩
 have hx := (hB1.block w.heap.size x4).trans HBX.out
 have HSO := hid hso
 have HBW := hid (HB0.out.trans (hB1.mono HB0.out.size))
 clear x0 x1 x2 x3 x4 hso hB1 HOU HBX HWE HB0
 obtain ⟨x0, x1, x2, x3, x4⟩ := x0v hx
 clear hx x1 x2 x3
 go_upto_region 3 with fail
 obtain ⟨w2, hw2⟩ : ∃ w2, w2 = w1.alloc (.cells (madeCells #[.int .i64 0] n) 3) := ⟨_, rfl⟩
 have hrow : w2.rowIs w1.heap.size 3 n (fun _ => .int .i64 0) := by rw [hw2]; exact World.rowIs_made w1 (.int .i64 0) n 3
 have hb1 : Below w1.heap.size w1 w2 := by rw [hw2]; exact (Below.refl _ _).alloc (Nat.le_refl _) _
 rw [<- hw2]
 obtain ⟨c0, hc0⟩ : ∃ c0, c0 = w1.heap.size := ⟨_, rfl⟩
 rw [<- hc0] at hrow ⊢
 have HROW := hid (q0u (n := n) (f := fun _ => 0) hrow); have HB1 := hid hb1; have HC0 := hid hc0
 clear hw2 hrow hb1 hc0 x0 x4 hmk
 go_wp2_with fail
 obtain ⟨w3, hw3⟩ : ∃ w3, w3 = w2.alloc (.cells #[.slice (some ⟨c0, 0, none⟩) n n] 27) := ⟨_, rfl⟩
 have hown3 : w3.ownsRow w1.heap.size 27 1 (.slice (some ⟨w2.heap.size, 0, none⟩) 1 1) 1 [.slice (some ⟨c0, 0, none⟩) n n] := by
   rw [hw3]
   exact World.ownsRow_lit (e := 27) (base := w1.heap.size) w2 #[.slice (some ⟨c0, 0, none⟩) n n] 1 (size := 1) HB1.out.size (by unfold maxLen; omega) rfl
 have hb3 : Below w2.heap.size w2 w3 := by rw [hw3]; exact (Below.refl _ _).alloc (Nat.le_refl _) _
 rw [<- hw3]
 have HOWN := hid hown3; have HB3 := hid (HB1.out.trans (hb3.mono HB1.out.size)); have HCS := hid (HROW.out.below hb3 (Nat.le_refl _))
 clear hw3 hown3 hb3 HROW
 go_loopg [4, 5, 6] (n + 1) (fun g v4 v5 _ wr => ∃ (cb : Nat) (C : Nat -> Int) (ra : Option Addr) (rc m : Nat) (xs : List Value), n + 1 <= g + (dist (fl n C)).length /\ m <= (dist (fl n C)).length /\ v4 = .slice (some ⟨cb, 0, none⟩) n n /\ v5 = .slice ra (m + 1) rc /\ wr.ownsRow w1.heap.size 27 1 (.slice ra (m + 1) rc) (m + 1) xs /\ xs[m]? = some (.slice (some ⟨cb, 0, none⟩) n n) /\ SlAt encI 1 wr (some ⟨cb, 0, none⟩) cb 0 (fl n C) /\ HoldsS s n C /\ canon (fl n C) = fl n C /\ w1.heap.size <= cb /\ Below w1.heap.size w1 wr)
 case atStart => exact ⟨c0, fun _ => 0, _, 1, 0, _, by omega, Nat.zero_le _, rfl, rfl, HOWN.out, rfl, HCS.out, .zero, x0f n, by have := HC0.out; omega, HB3.out⟩
 case round => (
 obtain ⟨cb, C, ra, rc, m, xs, hgk, hmd, rfl, rfl, hown, hxm, hrow, hro, hca, hcl, hB⟩ := hrel
 have hws := hB.size
 have hcr : ∀ p, p < n -> 0 <= C p /\ C p <= 1000 := fun p hp => by have := x1e hca hp; omega
 have hnx := x1r (c := n) (C := fl n C) (cc := n) (j0g n C) (by omega) (HSO.out.below hB) (fun p hp => outs_ok9 HR.out HN.out p) hrow (fun x hx => by
   obtain ⟨k, hk, rfl⟩ := List.mem_map.1 hx
   exact hcr k (List.mem_range.1 hk))
 have hns := next_str HR.out HN.out hcr
 have hcd : canon (fl n (clf n (fun i => (rep (nkey (fl n C) (fun p => s.norm.outs (p : Int))) i : Int)))) = fl n (clf n (fun i => (rep (nkey (fl n C) (fun p => s.norm.outs (p : Int))) i : Int))) := by rw [<- j0u, k0t]
 obtain ⟨D, hD⟩ : ∃ D : Nat -> Int, D = clf n (fun i => (rep (nkey (fl n C) (fun p => s.norm.outs (p : Int))) i : Int)) := ⟨_, rfl⟩
 rw [<- hD] at hnx hns hcd
 have HROWC := hid hrow; have HRO := hid hro; have HCA := hid hca; have HB := hid hB; have HNX := hid hnx; have HNS := hid hns; have HCD := hid hcd; have HOW := hid hown; have HXM := hid hxm
 clear hrow hro hca hB hnx hns hcd hD hcr HOWN HB3 HCS HB1 hown hxm
 go_wp2_with fail
 refine HNX.out.mono ?_
 rintro e w4 ⟨nb, rfl, hnw, hnb, hB2⟩
 have hcs := HROWC.out.below hB2 (Nat.le_refl _)
 have hT1 := p0k (c := n) hnw (by rw [j0g]; omega)
 have hT2 : ∀ V, Below w4.heap.size w4 V -> _ := fun V (hV : Below w4.heap.size w4 V) => p0k (c := n) (hcs.below hV (Nat.le_refl _)) (by rw [j0g]; omega)
 rw [j0g] at hT1
 have HT1 := hid hT1
 have HT2 : Hid (∀ V, Below w4.heap.size w4 V -> Calls Tryz.prog 27 #[.slice (some ⟨cb, 0, none⟩) n n] V fun e w' => e = .returned (.int .i64 ((dist (fl n C)).length : Int)) /\ Below V.heap.size V w') := hid (fun V hV => by (
 have h := hT2 V hV
 rw [j0g] at h
 exact h))
 have hmore : fl n D ≠ fl n C -> (dist (fl n C)).length < (dist (fl n D)).length := u1l HNS.out HCA.out HCD.out
 have hle := y0g n D
 have HMO := hid hmore
 obtain ⟨dc, hdc⟩ : ∃ dc, dc = (dist (fl n C)).length := ⟨_, rfl⟩
 obtain ⟨dd, hdd⟩ : ∃ dd, dd = (dist (fl n D)).length := ⟨_, rfl⟩
 rw [<- hdc] at HT2 HMO hgk hmd
 rw [<- hdd] at HT1 HMO hle
 have HNW := hid hnw; have HCS2 := hid hcs
 have HBZ := hid (HB.out.trans (hB2.mono hws)); have HDD := hid hdd; have HDC := hid hdc
 have hnbl : w1.heap.size <= nb := by omega
 have HNB := hid hnb
 have HOW4 := hid (own_below HOW.out hB2)
 have hoL : ∀ g, (Value.slice ra (m + 1) rc).ownBlock = some g -> g < nb := fun g hg => Nat.lt_of_lt_of_le (HOW.out.lt g hg).2 hnb
 have HOL := hid hoL
 clear hcs hnw hnb hB2 HNX hT1 hT2 hmore hdc hdd hoL
 by_cases he : dd = dc
 · (
 have hflat : fl n D = fl n C := Classical.byContradiction fun h => by have := HMO.out h; omega
 have heI : (dd : Int) = (dc : Int) := by omega
 have HFE := hid hflat
 clear hflat
 go_wp2_with fail
 refine HT1.out.mono ?_
 rintro e w5 ⟨rfl, hB3⟩
 have HB3 := hid hB3
 clear hB3
 go_wp2_with fail
 refine (HT2.out _ HB3.out).mono ?_
 rintro e w6 ⟨rfl, hB4⟩
 have HB4 := hid (HB3.out.trans (hB4.mono HB3.out.size))
 clear hB4
 go_wp2_with fail
 go_ret
 have hw01 := HBW.out.size
 exact ⟨ra, rc, m, xs, cb, C, rfl, j0o (own_below HOW4.out HB4.out) hw01, by omega, HXM.out, HCS2.out.below HB4.out (Nat.le_refl _), HRO.out.done HNS.out (fun p hp => u0v HFE.out hp), HCA.out, by omega, HBW.out.trans ((HBZ.out.trans (HB4.out.mono HBZ.out.size)).mono hw01)⟩)
 · (
 have hlt : dc < dd := HMO.out (fun h => he (by rw [HDD.out, HDC.out, h]))
 have heI : ¬ (dd : Int) = (dc : Int) := by omega
 go_wp2_with fail
 refine HT1.out.mono ?_
 rintro e w5 ⟨rfl, hB3⟩
 have HB3 := hid hB3
 clear hB3
 go_wp2_with fail
 refine (HT2.out _ HB3.out).mono ?_
 rintro e w6 ⟨rfl, hB4⟩
 have HB4 := hid (HB3.out.trans (hB4.mono HB3.out.size))
 have HOW6 := hid (own_below HOW4.out HB4.out)
 have HNW6 := hid (HNW.out.below HB4.out (Nat.le_refl _))
 have HB16 := hid (HBZ.out.trans (HB4.out.mono HBZ.out.size))
 have hw16 : w1.heap.size <= w6.heap.size := HB16.out.size
 have hnb6 : nb < w6.heap.size ∨ n = 0 := by (
 by_cases h0 : n = 0
 · exact .inr h0
 · exact .inl (HNW6.out.lt (by rw [j0g]; omega)))
 have HNX : Hid (∀ (w7 : World) (g cap : Nat), w7.ownsRow w1.heap.size 27 1 (.slice (some ⟨g, 0, none⟩) (m + 1 + 1) cap) (m + 1 + 1) (xs ++ [.slice (some ⟨nb, 0, none⟩) n n]) -> (w6.alloc (.cells #[.slice (some ⟨nb, 0, none⟩) n n] 27)).grownBy w7 (Value.slice ra (m + 1) rc).ownBlock -> SlAt encI 1 w7 (some ⟨nb, 0, none⟩) nb 0 (fl n D) /\ Below w1.heap.size w1 w7) := hid (fun w7 g cap ho hg => by (
 have hba := (Below.refl w6.heap.size w6).alloc (Nat.le_refl _) (.cells #[.slice (some ⟨nb, 0, none⟩) n n] 27)
 refine ⟨?_, (HB16.out.trans (hba.mono hw16)).grown hg (by have := hba.size; omega) (fun q hq => (HOW6.out.lt q hq).1)⟩
 have h6 := HNW6.out.below hba (Nat.le_refl _)
 refine ⟨h6.ad, fun hp => by have := h6.lt hp; have := hg.size; omega, fun i x hx j u hu => ?_⟩
 have hp : 0 < (fl n D).length := by have := (List.getElem?_eq_some_iff.1 hx).1; omega
 rw [World.cell?_of_block (a := ⟨nb, 0 + i * 1 + j, none⟩) (hg.block nb (h6.lt hp) (fun e => by have := HOL.out nb e.symm; omega))]
 exact h6.cell i x hx j u hu))
 have hxl : xs.length = m + 1 := by have := HOW6.out.1; simpa using this
 have HXL := hid hxl
 clear hB4 hxl hnb6
 go_wp2_with (at_builtin; refine j0x rfl _ _ _ rfl rowII9 (base := w1.heap.size) (by simp; omega) rfl (HOW6.out.alloc _) ⟨w6.heap.size, 0, none⟩ 1 1 [.slice (some ⟨nb, 0, none⟩) n n] rfl rfl (k0i (by simp [go_sem])) (by simp [Value.oneCell']) (by decide) (by omega) (by unfold maxLen; omega) w6.heap.size (by simp) ?_; intro g2 cap2 w7 hown7 hg7 hl7 hlt7; obtain ⟨hsl7, hb7⟩ := HNX.out w7 g2 cap2 hown7 hg7; have HO7 := hid hown7; have HS7 := hid hsl7; have HB7 := hid hb7; clear hown7 hg7 hl7 hsl7 hb7)
 go_roundg (gk - 1)
 case rel => exact ⟨nb, D, _, _, m + 1, _, by have := HDD.out; omega, by have := HDD.out; omega, rfl, rfl, HO7.out, by rw [List.getElem?_append_right (by rw [HXL.out]; exact Nat.le_refl _), HXL.out]; simp, HS7.out, HRO.out.next HNS.out, HCD.out, hnbl, HB7.out⟩
 case measure => omega))
theorem z0m {s : Lts} {n : Nat} (hr : s.Right) (hn : s.st = (n : Int)) {a : Option Addr} {b off c : Nat} {w : World} (hS : SlAt encE 3 w a b off s.es) (hc : s.es.length <= c) (hcm : c <= maxLen) :
    Calls Tryz.prog 11 #[.agg #[.int .i64 s.st, .int .i64 s.lb, .int .i64 s.s0, .slice a s.es.length c]] w fun e w' => ∃ (cb : Nat) (C : Nat -> Int), e = .returned (.slice (some ⟨cb, 0, none⟩) n n) /\ SlAt encI 1 w' (some ⟨cb, 0, none⟩) cb 0 (fl n C) /\ Big s n C /\ canon (fl n C) = fl n C /\ w.heap.size <= cb /\ Below w.heap.size w w' := by
 have hB0 := (Below.refl w.heap.size w).alloc (Nat.le_refl _) (Obj.cells #[.int .i64 s.st, .int .i64 s.lb, .int .i64 s.s0, .slice a s.es.length c] 24)
 have HRO := hid (v0y hr hn (hS.below hB0 (Nat.le_refl _)) hc hcm)
 have HB0 := hid hB0
 obtain ⟨el, hel⟩ : ∃ el, el = s.es.length := ⟨_, rfl⟩
 rw [<- hel] at HRO HB0 ⊢
 clear hr hn hS hc hcm hB0 hel
 go_enter Tryz.func11, Tryz.ntmps11
 go_wp2_with fail
 refine HRO.out.mono ?_
 rintro e w1 ⟨ra, rc, m, xs, cb, C, rfl, hown, hm2, hxm, hcs, hbig, hca, hcb, hB1⟩
 have hcell : ∃ g, ra = some ⟨g, 0, none⟩ /\ w1.cell? ⟨g, m, none⟩ = some (.slice (some ⟨cb, 0, none⟩) n n) /\ g < w1.heap.size := by (
 rcases hown.2 with ⟨h, _⟩ | ⟨g, cap, cur, hv, _, hh, _, _, _, ht⟩
 · simp at h
 · (
 simp only [Value.slice.injEq] at hv
 refine ⟨g, hv.1, ?_, (Array.getElem?_eq_some_iff.1 hh).1⟩
 rw [<- ht, List.getElem?_take] at hxm
 split at hxm
 · have h2 : cur[m]? = some (.slice (some ⟨cb, 0, none⟩) n n) := by simpa using hxm
   simp [World.cell?, hh, h2]
 · cases hxm))
 obtain ⟨g, rfl, c0, cl⟩ := hcell
 have HCS := hid hcs; have HBG := hid hbig; have HCA := hid hca
 have HB1 := hid (HB0.out.trans (hB1.mono (by simp)))
 have hcb2 : w.heap.size <= cb := by simp at hcb; omega
 have k1 : ((m + 1 : Nat) : Int) - 1 = (m : Int) := by omega
 have k2 : (m : Int) < ((m + 1 : Nat) : Int) := by omega
 clear hown hxm hcs hbig hca hB1 HRO hcb
 go_wp2_with fail
 go_ret
 exact ⟨cb, C, rfl, HCS.out, HBG.out, HCA.out, hcb2, HB1.out⟩
end Go.Proofs.YtjchdegapadepaaGreatDoor
