/-
  For law7.SystemShuffled: system.Normal with its error's code; a list that grows within one region.
-/
import Derived.Test.YtfjgedninbpjpaaDoorCode
import Derived.Test.YtfjgedninbpjpaaDoorAlive
import Derived.Test.YtfjgedninbpjpaaDoorPl7
import Derived.Test.YtfjgedninbpjpaaDoorRefSort
import Derived.Test.YtfjgedninbpjpaaDoorMem
namespace Go.Proofs.YtfjgedninbpjpaaDoor
open Go.RowKit Pl

/-- A list of edges, the region's own. -/
structure GW (w2 wr : World) (out : List E) (v : Value) : Prop where
  own : wr.ownsRow w2.heap.size 35 3 v out.length (out.flatMap encE)
  bel : Below w2.heap.size w2 wr
theorem GW.nil {w2 wr : World} (h : Below w2.heap.size w2 wr) : GW w2 wr [] (.slice none 0 0) := ⟨World.ownsRow_nil _ _ _ _, h⟩
theorem GW.call {w2 wr w' : World} {out : List E} {v : Value} (h : GW w2 wr out v) (hB : Below wr.heap.size wr w') : GW w2 w' out v :=
  ⟨own_below h.own hB, h.bel.trans (hB.mono h.bel.size)⟩
theorem GW.alloc {w2 wr : World} {out : List E} {v : Value} (h : GW w2 wr out v) (o : Obj) : GW w2 (wr.alloc o) out v := h.call ((Below.refl _ _).alloc (Nat.le_refl _) o)
theorem GW.blk {w2 wr : World} {out : List E} {g n c : Nat} (h : GW w2 wr out (.slice (some ⟨g, 0, none⟩) n c)) : g < wr.heap.size := (h.own.lt g rfl).2

/-- An append to it, at a step of a region. -/
theorem step_gw {w2 w : World} {ops : Array Oper} {o : Oper} {a : Act} {K : Act → World → Prop} {Q : Exit → Act → World → Prop} {F : Prop} (hgd : o.guard = none) (s x : Operand)
    (ho : o.op = .call { callee := .builtin .append, args := #[s, x], argTypes := #[22, 22] })
    {v : Value} {out : List E} (hs : a.eval s = v) (hw : GW w2 w out v) (ad : Addr) (m c : Nat) (news : List E) (hx : a.eval x = .slice (some ad) m c) (hl : news.length = m)
    (hnews : ∀ j u, (news.flatMap encE)[j]? = some u → w.cell? (ad.add j) = some u) (N : Nat) (hN : N = out.length + m) (hp : 0 < N) (hmax : N ≤ 1000000)
    (h : ∀ g cap w', GW w2 w' (out ++ news) (.slice (some ⟨g, 0, none⟩) N cap) → (∀ b, b < w.heap.size → v.ownBlock ≠ some b → w'.heap[b]? = w.heap[b]?) → w2.heap.size ≤ g → K (a.put o.dst (.slice (some ⟨g, 0, none⟩) N cap)) w') :
    if Region.wanted o (yielded ops a.tmps) = true then Oper.wp Tryd.prog o a w K Q else F := by
  subst hN
  refine step_app hgd s x _ ho rowE hs hw.own ad m c (news.flatMap encE) hx (by rw [length_flatMap lenE, hl]) hnews (fun u hu => ?_) (by omega) (by unfold maxLen; omega) hw.bel.size (fun v' w' h2 h3 => ?_)
  · obtain ⟨y, _, hy⟩ := List.mem_flatMap.1 hu
    simp [encE] at hy
    rcases hy with rfl | rfl | rfl <;> rfl
  · obtain ⟨g, cap, rfl, hg, _⟩ := h2.form hp
    refine h g cap w' ⟨?_, hw.bel.grown h3 hw.bel.size (fun k hk => (hw.own.lt k hk).1)⟩ (fun b hb hn => h3.block b hb (fun e => hn e.symm)) hg
    rw [List.flatMap_append, List.length_append, hl]
    exact h2

/-- What Normal tells: the four fields and the error's code. -/
def NO (s : Lts) (r : Int × Int × Int × List E × Int) : Prop := (s.Right ∧ r = (s.st, s.lb, s.s0, s.norm.es, 0)) ∨ (¬ s.Right ∧ r = (0, 0, 0, [], 14))
theorem NO.same {s t : Lts} {r u : Int × Int × Int × List E × Int} (hs : NO s r) (ht : NO t u) (h1 : t.norm = s.norm) (h2 : t.Right ↔ s.Right) : u = r := by
  have e1 : t.norm.st = s.norm.st := congrArg (fun q : Lts => q.st) h1
  have e2 : t.norm.lb = s.norm.lb := congrArg (fun q : Lts => q.lb) h1
  have e3 : t.norm.s0 = s.norm.s0 := congrArg (fun q : Lts => q.s0) h1
  rcases hs with ⟨a, rfl⟩ | ⟨a, rfl⟩ <;> rcases ht with ⟨b, rfl⟩ | ⟨b, rfl⟩
  · change t.st = s.st at e1; change t.lb = s.lb at e2; change t.s0 = s.s0 at e3
    rw [h1, e1, e2, e3]
  · exact absurd (h2.2 a) b
  · exact absurd (h2.1 b) a
  · rfl
theorem NO.len {s : Lts} {x y z cd : Int} {L : List E} (h : NO s (x, y, z, L, cd)) (hl : s.es.length ≤ 10000) : L.length ≤ 1000000 := by
  rcases h with ⟨_, h⟩ | ⟨_, h⟩
  · have : L = nf ltE s.es := by simp at h; exact h.2.2.2.1
    rw [this]; have := length_nf (lt := ltE) s.es; omega
  · have : L = [] := by simp at h; exact h.2.2.2.1
    rw [this]; simp
theorem NO.ex (s : Lts) : ∃ x y z L cd, NO s (x, y, z, L, cd) := by
  by_cases h : s.Right
  · exact ⟨_, _, _, _, _, .inl ⟨h, rfl⟩⟩
  · exact ⟨_, _, _, _, _, .inr ⟨h, rfl⟩⟩

/-- Normal, with the error's code. -/
theorem normal_any {p : Addr} {s : Lts} {x y z cd : Int} {L : List E} (hN : NO s (x, y, z, L, cd)) {a : Option Addr} {b off c : Nat} {w : World} (hE : Errs p w) (hS : SlAt encE 3 w a b off s.es) :
    Calls Tryd.prog 47 #[.agg #[.int .i64 s.st, .int .i64 s.lb, .int .i64 s.s0, .slice a s.es.length c]] w fun e w' =>
      ∃ a1 c1 b1 o1 v, e = .returned (.tuple #[.agg #[.int .i64 x, .int .i64 y, .int .i64 z, .slice a1 L.length c1], v]) ∧ SlAt encE 3 w' a1 b1 o1 L ∧ Below w.heap.size w w' ∧
        ∀ w2, Below w'.heap.size w' w2 → Calls Tryd.prog 48 #[v] w2 fun e w3 => e = .returned (.int .i64 cd) ∧ w2 = w3 := by
  rcases hN with ⟨hr, h⟩ | ⟨hr, h⟩
  · simp only [Prod.mk.injEq] at h
    obtain ⟨rfl, rfl, rfl, rfl, rfl⟩ := h
    refine (normal_ok (c := c) hr hE.sys hS).mono ?_
    rintro e w' ⟨v, rfl, hown, hB⟩
    obtain ⟨a1, c1, b1, rfl, _, _, h1, _⟩ := slAt_own lenE hown
    exact ⟨a1, c1, b1, 0, .nilIface, rfl, h1, hB, fun w2 _ => code_nil w2⟩
  · simp only [Prod.mk.injEq] at h
    obtain ⟨rfl, rfl, rfl, rfl, rfl⟩ := h
    refine (normal_no (c := c) hr hE.sys hS).mono ?_
    rintro e w' ⟨v, rfl, hF, hB⟩
    exact ⟨none, 0, 0, 0, v, rfl, ⟨fun h => by simp at h, fun h => by simp at h, fun i x h => by simp at h⟩, hB, fun w2 hB2 => code_at ((hE.below hB).below hB2) (hF.below hB2)⟩

theorem lit3 {w : World} {eb : Nat} {x : E} (h : w.heap[eb]? = some (.cells #[.int .i64 x.1, .int .i64 x.2.1, .int .i64 x.2.2] 35 (0, 0))) : ∀ j u, ([x].flatMap encE)[j]? = some u → w.cell? ((⟨eb, 0, none⟩ : Addr).add j) = some u :=
  cells3 (by simp [World.cell?, h]) (by simp [World.cell?, h]) (by simp [World.cell?, h])

/-- What lasts behind the region of appends and the store. -/
theorem behind {w w0 W : World} {s : Lts} {v0 v1 : Value} {B g m cap : Nat} {es : List E} (hB : B = w.heap.size) (h0 : w0.heap.size = B + 2) (hb : Below w.heap.size w w0)
    (hx : w0.heap[B]? = some (.cells #[.int .i64 s.st, .int .i64 s.lb, .int .i64 s.s0, v0] 24 (0, 0)))
    (hy : w0.heap[B + 1]? = some (.cells #[.int .i64 s.st, .int .i64 s.lb, .int .i64 s.s0, v1] 24 (0, 0)))
    {w2 : World} (hw2 : Below w0.heap.size w0 w2) (hg : GW w2 W es (.slice (some ⟨g, 0, none⟩) m cap)) (hm : 0 < es.length) :
    Below w.heap.size w (W.setCell ⟨B + 1, 3, none⟩ (.slice (some ⟨g, 0, none⟩) m cap)) ∧
    (W.setCell ⟨B + 1, 3, none⟩ (.slice (some ⟨g, 0, none⟩) m cap)).heap[B]? = some (.cells #[.int .i64 s.st, .int .i64 s.lb, .int .i64 s.s0, v0] 24 (0, 0)) ∧
    (W.setCell ⟨B + 1, 3, none⟩ (.slice (some ⟨g, 0, none⟩) m cap)).heap[B + 1]? = some (.cells #[.int .i64 s.st, .int .i64 s.lb, .int .i64 s.s0, .slice (some ⟨g, 0, none⟩) m cap] 24 (0, 0)) ∧
    SlAt encE 3 (W.setCell ⟨B + 1, 3, none⟩ (.slice (some ⟨g, 0, none⟩) m cap)) (some ⟨g, 0, none⟩) g 0 es := by
  subst hB
  have hb2 := hw2.trans (hg.bel.mono hw2.size)
  have hs := hw2.size
  refine ⟨(hb.trans (hb2.mono hb.size)).setCell (by show w.heap.size ≤ w.heap.size + 1; omega) _, ?_, ?_, ?_⟩
  · rw [Below.heap_setCell _ _ _ _ (by show w.heap.size ≠ w.heap.size + 1; omega), hb2.block _ (by omega)]; exact hx
  · exact heap_setCell_same W (w.heap.size + 1) 3 _ _ _ (by rw [hb2.block _ (by omega)]; exact hy)
  · obtain ⟨a1, c1, b1, hv, _, _, h1, h2⟩ := slAt_own lenE hg.own
    have had := h1.ad hm
    simp only [Value.slice.injEq] at hv
    obtain ⟨ha, _, _⟩ := hv
    rw [had] at ha
    simp only [Option.some.injEq, Addr.mk.injEq] at ha
    obtain ⟨rfl, _, _⟩ := ha
    have h3 := h2 hm
    exact (show SlAt encE 3 W (some ⟨g, 0, none⟩) g 0 es by rw [had] at h1; exact h1).setOther (fun _ => by show g ≠ w.heap.size + 1; omega) _

/-- The two one forms, within the last region. -/
structure RI (w0 W : World) (p : Addr) (B7 B9 : Nat) (x y z : Int) (L : List E) (cd : Int) (a1 : Option Addr) (c1 b1 o1 : Nat) (v1 : Value) (a2 : Option Addr) (c2 b2 o2 : Nat) (v2 : Value) : Prop where
  bel : Below w0.heap.size w0 W
  ger : GErr 0 p W
  k7 : W.heap[B7]? = some (.cells #[.int .i64 x, .int .i64 y, .int .i64 z, .slice a1 L.length c1] 24 (0, 0))
  k9 : W.heap[B9]? = some (.cells #[.int .i64 x, .int .i64 y, .int .i64 z, .slice a2 L.length c2] 24 (0, 0))
  s1 : SlAt encE 3 W a1 b1 o1 L
  s2 : SlAt encE 3 W a2 b2 o2 L
  e1 : ∀ w2, Below W.heap.size W w2 → Calls Tryd.prog 48 #[v1] w2 fun e w3 => e = .returned (.int .i64 cd) ∧ w2 = w3
  e2 : ∀ w2, Below W.heap.size W w2 → Calls Tryd.prog 48 #[v2] w2 fun e w3 => e = .returned (.int .i64 cd) ∧ w2 = w3
section
variable {w0 W W' : World} {p : Addr} {B7 B9 : Nat} {x y z : Int} {L : List E} {cd : Int} {a1 : Option Addr} {c1 b1 o1 : Nat} {v1 : Value} {a2 : Option Addr} {c2 b2 o2 : Nat} {v2 : Value}
theorem RI.below (h : RI w0 W p B7 B9 x y z L cd a1 c1 b1 o1 v1 a2 c2 b2 o2 v2) (hB : Below W.heap.size W W') : RI w0 W' p B7 B9 x y z L cd a1 c1 b1 o1 v1 a2 c2 b2 o2 v2 :=
  ⟨h.bel.trans (hB.mono h.bel.size), h.ger.below hB, by rw [hB.block _ (Array.getElem?_eq_some_iff.1 h.k7).1]; exact h.k7, by rw [hB.block _ (Array.getElem?_eq_some_iff.1 h.k9).1]; exact h.k9,
    h.s1.below hB (Nat.le_refl _), h.s2.below hB (Nat.le_refl _), fun w2 h2 => h.e1 w2 (hB.trans (h2.mono hB.size)), fun w2 h2 => h.e2 w2 (hB.trans (h2.mono hB.size))⟩
theorem RI.cells (h : RI w0 W p B7 B9 x y z L cd a1 c1 b1 o1 v1 a2 c2 b2 o2 v2) :
    W.cell? ⟨B7, 0, none⟩ = some (.int .i64 x) ∧ W.cell? ⟨B7, 1, none⟩ = some (.int .i64 y) ∧ W.cell? ⟨B7, 2, none⟩ = some (.int .i64 z) ∧ W.cell? ⟨B7, 3, none⟩ = some (.slice a1 L.length c1) ∧
    W.cell? ⟨B9, 0, none⟩ = some (.int .i64 x) ∧ W.cell? ⟨B9, 1, none⟩ = some (.int .i64 y) ∧ W.cell? ⟨B9, 2, none⟩ = some (.int .i64 z) ∧ W.cell? ⟨B9, 3, none⟩ = some (.slice a2 L.length c2) := by
  have h7 := h.k7; have h9 := h.k9
  exact ⟨by simp [World.cell?, h7], by simp [World.cell?, h7], by simp [World.cell?, h7], by simp [World.cell?, h7], by simp [World.cell?, h9], by simp [World.cell?, h9], by simp [World.cell?, h9], by simp [World.cell?, h9]⟩
end
end Go.Proofs.YtfjgedninbpjpaaDoor
