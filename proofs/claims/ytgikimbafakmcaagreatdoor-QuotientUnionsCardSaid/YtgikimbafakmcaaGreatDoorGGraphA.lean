/-
  Lemmas.
-/
import Derived.Test.YtgikimbafakmcaaGreatDoorGPl6
import Derived.Outline
import Derived.Deep.QuietTactic
import Derived.BigQuiet
import Derived.IntWalk
import Derived.Test.YtgikimbafakmcaaGreatDoorGPl1
import Derived.Test.YtgikimbafakmcaaGreatDoorGFault
import Derived.Deep.OwnRows
import Derived.Deep.RegionHeld3
import Derived.Deep.Cut
import Derived.Deep.CutRange
import Derived.Deep.DeepMust
set_option maxRecDepth 100000
namespace Go.Proofs.YtgikimbafakmcaaGreatDoor
open Go.RowKit Pl
theorem slAt_sub {α : Type} {enc : α -> List Value} {k : Nat} {w : World} {a : Option Addr} {b off : Nat} {xs : List α} (h : SlAt enc k w a b off xs) (lo m : Nat) :
    SlAt enc k w (some ⟨b, off + lo * k, none⟩) b (off + lo * k) ((xs.drop lo).take m) where
  ad _ := rfl
  lt hl := h.lt (by simp at hl; omega)
  cell i x hx j u hu := by
    rw [List.getElem?_take] at hx
    split at hx
    · rw [List.getElem?_drop] at hx
      have := h.cell (lo + i) x hx j u hu
      rw [Nat.add_mul] at this
      rw [show off + lo * k + i * k + j = off + (lo * k + i * k) + j by omega]
      exact this
    · cases hx
structure RowsAt (w : World) (va vf : Value) (n : Nat) (all : List S) (fr : Nat -> Nat) : Prop where
  alls : ∃ a c b off, va = .slice a all.length c /\ all.length <= c /\ c <= maxLen /\ SlAt encS 2 w a b off all
  from_ : ∃ b, vf = .slice (some ⟨b, 0, none⟩) (n + 1) (n + 1) /\ b < w.heap.size /\ ∀ i, i <= n -> w.cell? ⟨b, i, none⟩ = some (.int .i64 (fr i))
  mono : ∀ i, i < n -> fr i <= fr (i + 1)
  top : ∀ i, i <= n -> fr i <= all.length
  small : all.length <= 10000
  n_le : n <= 1000
def rowOf (all : List S) (fr : Nat -> Nat) (i : Nat) : List S := (all.drop (fr i)).take (fr (i + 1) - fr i)
theorem RowsAt.below {w w' : World} {va vf : Value} {n : Nat} {all : List S} {fr : Nat -> Nat} (h : RowsAt w va vf n all fr) (hB : Below w.heap.size w w') : RowsAt w' va vf n all fr := by
 obtain ⟨a, c, b, off, h1, h2, h3, h4⟩ := h.alls
 obtain ⟨b', h5, h6, h7⟩ := h.from_
 exact ⟨⟨a, c, b, off, h1, h2, h3, h4.below hB (Nat.le_refl _)⟩, ⟨b', h5, Nat.lt_of_lt_of_le h6 hB.size, fun i hi => by rw [hB.cell (p := ⟨b', i, none⟩) h6]; exact h7 i hi⟩, h.mono, h.top, h.small, h.n_le⟩
def StepsRet (w' : World) (e : Ending) (ss : List S) : Prop := ∃ a c b off, e = .returned (.slice a ss.length c) /\ ss.length <= c /\ c <= maxLen /\ SlAt encS 2 w' a b off ss
theorem stepsRet_nil {w' : World} : StepsRet w' (.returned (.slice none 0 0)) [] := ⟨none, 0, 0, 0, rfl, Nat.le_refl _, by unfold maxLen; omega, slAt_nil _ _ _ _⟩
theorem row_out {w0 w : World} (va vf : Value) {n : Nat} {all : List S} {fr : Nat -> Nat} (h : RowsAt w0 va vf n all fr) (_hB : Below w0.heap.size w0 w) (i : Int) (hi : i < 0 ∨ (n : Int) <= i) :
    Calls Tryz.prog 151 #[.agg #[va, vf], .int .i64 i] w fun e w' => StepsRet w0 e [] /\ Below w.heap.size w w' := by
 obtain ⟨a, c, b, off, rfl, h2, h3, h4⟩ := h.alls
 obtain ⟨b', rfl, h6, h7⟩ := h.from_
 have hn := h.n_le
 clear h h4 h7 _hB
 rcases hi with hi | hi
 · go_enter Tryz.func151, Tryz.ntmps151
   go_wp2
   go_ret
   exact ⟨stepsRet_nil, (Below.refl _ _).alloc (Nat.le_refl _) _⟩
 · have hi0 : ¬ i < 0 := by omega
   go_enter Tryz.func151, Tryz.ntmps151
   go_wp2
   go_ret
   exact ⟨stepsRet_nil, (Below.refl _ _).alloc (Nat.le_refl _) _⟩
theorem row_in {w0 w : World} (va vf : Value) {n : Nat} {all : List S} {fr : Nat -> Nat} (h : RowsAt w0 va vf n all fr) (hB : Below w0.heap.size w0 w) (i : Nat) (hi : i < n) :
    Calls Tryz.prog 151 #[.agg #[va, vf], .int .i64 i] w fun e w' => StepsRet w0 e (rowOf all fr i) /\ Below w.heap.size w w' := by
 obtain ⟨a, c, b, off, rfl, h2, h3, h4⟩ := h.alls
 obtain ⟨b', rfl, h6, h7⟩ := h.from_
 have hn := h.n_le
 have c0 : w.cell? ⟨b', i, none⟩ = _ := (hB.cell (p := ⟨b', i, none⟩) h6).trans (h7 i (by omega))
 have c1 : w.cell? ⟨b', i + 1, none⟩ = _ := (hB.cell (p := ⟨b', i + 1, none⟩) h6).trans (h7 (i + 1) (by omega))
 replace h6 : b' < w.heap.size := Nat.lt_of_lt_of_le h6 hB.size
 have hm := h.mono i hi
 have ht := h.top (i + 1) (by omega)
 have hs := h.small
 unfold rowOf
 generalize fr i = lo at *
 generalize fr (i + 1) = hi' at *
 have hlen : ((all.drop lo).take (hi' - lo)).length = hi' - lo := by simp; omega
 have k1 : (i : Int) < (n : Int) := by omega
 have k2 : (0 : Int) <= (i : Int) + 1 := by omega
 have k6 : (i : Int) < (n : Int) + 1 := by omega
 have k3 : IntKind.i64.wrap ((i : Int) + 1) = (i : Int) + 1 := IntWalk.i64_in _ (by omega)
 have k4 : ((i : Int) + 1).toNat = i + 1 := by omega
 have k7 : (lo : Int) <= (hi' : Int) := by omega
 have k8 : (hi' : Int) <= (c : Int) := by omega
 by_cases heq : lo = hi'
 · subst heq
   have hrow : (all.drop lo).take (lo - lo) = [] := by simp
   rw [hrow]
   clear h h4 h7 hlen hrow hB
   go_enter Tryz.func151, Tryz.ntmps151
   go_wp2_with fail
   go_quiet (fail)
   go_wp2
   all_goals
     go_ret
     exact ⟨⟨a, _, 0, 0, rfl, Nat.le_refl _, by unfold maxLen; omega, slAt_nil _ _ _ _⟩, below_drewN ((Below.refl _ _).alloc (Nat.le_refl _) _) _⟩
 · obtain rfl := h4.ad (by omega)
   have k9 : (lo : Int) < (hi' : Int) := by omega
   have k10 : (lo : Int) < (c : Int) := by omega
   have k11 : lo < hi' := by omega
   have H4 := Lib.hid h4; have HL := Lib.hid hlen
   clear h h4 h7 hlen hB
   go_enter Tryz.func151, Tryz.ntmps151
   go_wp2_with fail
   go_quiet (fail)
   go_wp2
   go_ret
   refine ⟨⟨some ⟨b, off + lo * 2, none⟩, hi' - lo, b, off + lo * 2, ?_, by rw [HL.out]; exact Nat.le_refl _, by omega, slAt_sub H4.out lo (hi' - lo)⟩, below_drewN ((Below.refl _ _).alloc (Nat.le_refl _) _) _⟩
   rw [HL.out]
   first | rfl | (simp; done)
end Go.Proofs.YtgikimbafakmcaaGreatDoor
namespace Go.Proofs.YtgikimbafakmcaaGreatDoor
open Go.RowKit Pl
def stO (x : E) : S := (x.2.1, x.2.2)
def stI (x : E) : S := (x.2.1, x.1)
structure GraphAt (w : World) (gb : Nat) (s : Lts) : Prop where
  right : s.Right
  srt : Srt ltE s.es
  blk : ∃ ve oa of ia if_ : Value, w.heap[gb]? = some (.cells #[.int .i64 s.st, .int .i64 s.lb, .int .i64 s.s0, ve, oa, of, ia, if_] 217 (0, 0)) /\
    (∃ a c b off, ve = .slice a s.es.length c /\ s.es.length <= c /\ SlAt encE 3 w a b off s.es) /\
    RowsAt w oa of s.st.toNat (s.es.map stO) (frK (fun x => x.1) s.es) /\
    RowsAt w ia if_ s.st.toNat ((nf ltB s.es).map stI) (frK (fun x => x.2.2) (nf ltB s.es))
theorem GraphAt.lt {w : World} {gb : Nat} {s : Lts} (h : GraphAt w gb s) : gb < w.heap.size := by
 obtain ⟨ve, oa, of, ia, if_, h1, _⟩ := h.blk
 exact (Array.getElem?_eq_some_iff.1 h1).1
theorem GraphAt.below {w w' : World} {gb : Nat} {s : Lts} (h : GraphAt w gb s) (hB : Below w.heap.size w w') : GraphAt w' gb s := by
 obtain ⟨ve, oa, of, ia, if_, h1, ⟨a, c, b, off, h2, h2', h3⟩, h4, h5⟩ := h.blk
 exact ⟨h.right, h.srt, ve, oa, of, ia, if_, by rw [hB.block _ h.lt]; exact h1, ⟨a, c, b, off, h2, h2', h3.below hB (Nat.le_refl _)⟩, h4.below hB, h5.below hB⟩
theorem rowOf_map (key : E -> Int) (f : E -> S) (l : List E) (h : l.Pairwise (fun a b => key a <= key b)) (i : Nat) : rowOf (l.map f) (frK key l) i = (l.filter (fun x => key x == (i : Int))).map f := by
 unfold rowOf
 rw [<- List.map_drop, <- List.map_take]
 congr 1
 exact piece i l h
theorem outs_out {s : Lts} (h : s.Right) {i : Int} (hi : i < 0 ∨ s.st <= i) : s.outs i = [] := by
 unfold Lts.outs
 have : s.es.filter (fun x => x.1 == i) = [] := by (
 rw [List.filter_eq_nil_iff]; intro x hx
 have := offB_false.1 (h.edges x hx)
 simp; omega)
 rw [this]; rfl
theorem ins_out {s : Lts} (h : s.Right) {i : Int} (hi : i < 0 ∨ s.st <= i) : s.ins i = [] := by
 unfold Lts.ins
 have : (nf ltB s.es).filter (fun x => x.2.2 == i) = [] := by (
 rw [List.filter_eq_nil_iff]; intro x hx
 have := offB_false.1 (h.edges x ((mem_nf stoB x s.es).1 hx))
 simp; omega)
 rw [this]; rfl
theorem row_outs {w0 w : World} (hB : Below w0.heap.size w0 w) {va vf : Value} {s : Lts} (hr : s.Right) (hs : Srt ltE s.es) (h : RowsAt w0 va vf s.st.toNat (s.es.map stO) (frK (fun x => x.1) s.es)) (i : Int) :
    Calls Tryz.prog 151 #[.agg #[va, vf], .int .i64 i] w fun e w' => StepsRet w0 e (s.outs i) /\ Below w.heap.size w w' := by
 have h0 := hr.st0
 by_cases hi : i < 0 ∨ s.st <= i
 · rw [outs_out hr hi]
   exact row_out va vf h hB i (by omega)
 · obtain ⟨n, rfl⟩ := Int.eq_ofNat_of_zero_le (show 0 <= i by omega)
   have := row_in va vf h hB n (by omega)
   rw [rowOf_map (fun x => x.1) stO s.es (srtE_key hs)] at this
   exact this
theorem row_ins {w0 w : World} (hB : Below w0.heap.size w0 w) {va vf : Value} {s : Lts} (hr : s.Right) (h : RowsAt w0 va vf s.st.toNat ((nf ltB s.es).map stI) (frK (fun x => x.2.2) (nf ltB s.es))) (i : Int) :
    Calls Tryz.prog 151 #[.agg #[va, vf], .int .i64 i] w fun e w' => StepsRet w0 e (s.ins i) /\ Below w.heap.size w w' := by
 have h0 := hr.st0
 by_cases hi : i < 0 ∨ s.st <= i
 · rw [ins_out hr hi]
   exact row_out va vf h hB i (by omega)
 · obtain ⟨n, rfl⟩ := Int.eq_ofNat_of_zero_le (show 0 <= i by omega)
   have := row_in va vf h hB n (by omega)
   rw [rowOf_map (fun x => x.2.2) stI (nf ltB s.es) (srtB_key (srt_nf stoB _))] at this
   exact this
theorem each_any {w0 w : World} {gb : Nat} {s : Lts} (h : GraphAt w0 gb s) (hB0 : Below w0.heap.size w0 w) (i : Int) :
    Calls Tryz.prog 119 #[.pointer (some ⟨gb, 0, none⟩), .int .i64 i] w fun e w' => StepsRet w0 e (s.outs i) /\ Below w.heap.size w w' := by
 obtain ⟨ve, oa, of, ia, if_, h1, _, h4, _⟩ := h.blk
 have h1' := (hB0.block gb h.lt).trans h1
 have c4 : w.cell? ⟨gb, 4, none⟩ = some oa := by simp [World.cell?, h1']
 have c5 : w.cell? ⟨gb, 5, none⟩ = some of := by simp [World.cell?, h1']
 have hR := row_outs hB0 h.right h.srt h4 i
 have HR := Lib.hid hR
 clear h h1 h1' h4 hR hB0
 go_enter Tryz.func119, Tryz.ntmps119
 go_wp2_with (go_at_call 151; refine (HR.out).mono ?_; rintro e w1 ⟨⟨a, c, b, off, rfl, hrest⟩, hB⟩; have HREST := Lib.hid hrest; clear hrest)
 go_ret
 exact ⟨⟨a, c, b, off, rfl, HREST.out⟩, hB⟩
theorem back_any {w0 w : World} {gb : Nat} {s : Lts} (h : GraphAt w0 gb s) (hB0 : Below w0.heap.size w0 w) (i : Int) :
    Calls Tryz.prog 156 #[.pointer (some ⟨gb, 0, none⟩), .int .i64 i] w fun e w' => StepsRet w0 e (s.ins i) /\ Below w.heap.size w w' := by
 obtain ⟨ve, oa, of, ia, if_, h1, _, _, h5⟩ := h.blk
 have h1' := (hB0.block gb h.lt).trans h1
 have c4 : w.cell? ⟨gb, 6, none⟩ = some ia := by simp [World.cell?, h1']
 have c5 : w.cell? ⟨gb, 7, none⟩ = some if_ := by simp [World.cell?, h1']
 have hR := row_ins hB0 h.right h5 i
 have HR := Lib.hid hR
 clear h h1 h1' h5 hR hB0
 go_enter Tryz.func156, Tryz.ntmps156
 go_wp2_with (go_at_call 151; refine (HR.out).mono ?_; rintro e w1 ⟨⟨a, c, b, off, rfl, hrest⟩, hB⟩; have HREST := Lib.hid hrest; clear hrest)
 go_ret
 exact ⟨⟨a, c, b, off, rfl, HREST.out⟩, hB⟩
end Go.Proofs.YtgikimbafakmcaaGreatDoor
namespace Go.Proofs.YtgikimbafakmcaaGreatDoor
open Go.RowKit Pl
theorem wpList_lies {P : Program} {w : World} {ops : Array Oper} {rest : List Oper} {o : Oper} {a : Act} {Q : Exit -> Act -> World -> Prop} (hgd : o.guard = none) (s x : Operand) (t : TypeId)
    (ho : o.op = .call { callee := .builtin .append, args := #[s, x], argTypes := #[t, t] })
    {e : TypeId} {size bytes : Nat} {z : Value} (R : IsRow P t e size bytes z) {base : Nat} (hb0 : base <= w.heap.size)
    {v : Value} {n : Nat} {xs : List Value} (hs : a.eval s = v) (hown : w.ownsRow base e size v n xs)
    (ad : Addr) (m c : Nat) (news : List Value) (hx : a.eval x = .slice (some ad) m c) (hl : news.length = m * size) (hnews : ∀ j u, news[j]? = some u -> w.cell? (ad.add j) = some u) (h1 : ∀ u ∈ news, u.oneCell' = true) (hm : 0 < m)
    (hbytes : (n + m) * bytes <= 140737488355328) (hmax : n + m <= maxLen) (H : Nat) (hH : w.heap.size = H)
    (h : ∀ g cap w', w'.ownsRow base e size (.slice (some ⟨g, 0, none⟩) (n + m) cap) (n + m) (xs ++ news) -> w.grownBy w' v.ownBlock -> (v.ownBlock = some g ∨ g = H) -> g < w'.heap.size -> wpList P ops Q rest (a.put o.dst (.slice (some ⟨g, 0, none⟩) (n + m) cap)) w') : wpList P ops Q (o :: rest) a w := by
 obtain ⟨i, hi, hz, hsz, hby⟩ := R.info
 exact wpList_plain hgd fun _ hK => wp_append_lies w s x t ho base e i z size bytes R.ht hi hz hsz hby R.zs R.pos v n xs hs hown ad m c news hx hl hnews h1 hm hmax hbytes hb0 H hH (fun g cap w' h2 h3 h4 h5 => hK _ _ (h g cap w' h2 h3 h4 h5))
section
variable {α : Type} {enc : α -> List Value} {k : Nat} {e T : TypeId} {w w' : World} {base ob n : Nat} {f : Nat -> List α}
structure OwnRows (enc : α -> List Value) (k : Nat) (e T : TypeId) (w : World) (base ob n : Nat) (f : Nat -> List α) : Prop where
  ex : ∃ vs : Nat -> Value, w.rowIs ob T n vs /\ (∀ p, p < n -> w.ownsRow base e k (vs p) (f p).length ((f p).flatMap enc)) /\
    (∀ p q g, p < n -> q < n -> p ≠ q -> (vs p).ownBlock = some g -> (vs q).ownBlock ≠ some g)
  lt : ob < base
theorem OwnRows.made {w : World} {n : Nat} : OwnRows enc k e T (w.alloc (.cells (madeCells #[.slice none 0 0] n) T)) (w.heap.size + 1) w.heap.size n (fun _ => []) where
  ex := ⟨fun _ => .slice none 0 0, World.rowIs_made w (.slice none 0 0) n T, fun p _ => ⟨by simp, .inl ⟨rfl, rfl⟩⟩, fun p q g _ _ _ h => by simp [Value.ownBlock] at h⟩
  lt := by omega
theorem OwnRows.kept (h : OwnRows enc k e T w base ob n f) (hs : ∀ b, b = ob ∨ base <= b -> b < w.heap.size -> w'.heap[b]? = w.heap[b]?) : OwnRows enc k e T w' base ob n f := by
 obtain ⟨vs, h1, h2, h3⟩ := h.ex
 refine ⟨⟨vs, h1.of_block (hs ob (.inl rfl) h1.lt), fun p hp => ?_, h3⟩, h.lt⟩
 have h4 := h2 p hp
 refine ⟨h4.1, ?_⟩
 rcases h4.2 with h5 | ⟨g, cap, cur, hv, hg, hh, r⟩
 · exact .inl h5
 · exact .inr ⟨g, cap, cur, hv, hg, by rw [hs g (.inr hg) (Array.getElem?_eq_some_iff.1 hh).1]; exact hh, r⟩
theorem OwnRows.call (h : OwnRows enc k e T w base ob n f) (hB : Below w.heap.size w w') : OwnRows enc k e T w' base ob n f :=
  h.kept (fun b _ hb => hB.block b hb)
theorem OwnRows.alloc (h : OwnRows enc k e T w base ob n f) (o : Obj) : OwnRows enc k e T (w.alloc o) base ob n f :=
  h.call ((Below.refl _ _).alloc (Nat.le_refl _) o)
theorem OwnRows.drewN (h : OwnRows enc k e T w base ob n f) (m : Nat) : OwnRows enc k e T (w.drewN m) base ob n f := h.kept (fun _ _ _ => rfl)
theorem OwnRows.setOther (h : OwnRows enc k e T w base ob n f) {a : Addr} (h1 : a.block ≠ ob) (h2 : a.block < base) (v : Value) : OwnRows enc k e T (w.setCell a v) base ob n f :=
  h.kept (fun b hb _ => Below.heap_setCell _ _ _ _ (by rcases hb with rfl | hb <;> omega))
theorem OwnRows.size (h : OwnRows enc k e T w base ob n f) : ob < w.heap.size := by obtain ⟨vs, h1, _⟩ := h.ex; exact h1.lt
theorem OwnRows.at (h : OwnRows enc k e T w base ob n f) {p : Nat} (hp : p < n) : ∃ v, w.cell? ⟨ob, p, none⟩ = some v /\ w.frozen? ⟨ob, p, none⟩ = false /\ w.ownsRow base e k v (f p).length ((f p).flatMap enc) := by
 obtain ⟨vs, h1, h2, _⟩ := h.ex
 exact ⟨vs p, h1.cell hp, h1.frozen p, h2 p hp⟩
theorem OwnRows.open (h : OwnRows enc k e T w base ob n f) {p : Nat} (hp : p < n) : ∃ v, w.cell? ⟨ob, p, none⟩ = some v /\ w.frozen? ⟨ob, p, none⟩ = false /\ w.ownsRow base e k v (f p).length ((f p).flatMap enc) /\
    ∀ (w1 w2 : World) (g cap : Nat) (ys : List α), Below w.heap.size w w1 -> base <= w1.heap.size -> w2.ownsRow base e k (.slice (some ⟨g, 0, none⟩) ys.length cap) ys.length (ys.flatMap enc) -> w1.grownBy w2 v.ownBlock -> (v.ownBlock = some g ∨ w.heap.size <= g) ->
      w2.cell? ⟨ob, p, none⟩ = some v /\ w2.frozen? ⟨ob, p, none⟩ = false /\
      OwnRows enc k e T (w2.setCell ⟨ob, p, none⟩ (.slice (some ⟨g, 0, none⟩) ys.length cap)) base ob n (fun i => if i = p then ys else f i) := by
 obtain ⟨vs, h1, h2, h3⟩ := h.ex
 refine ⟨vs p, h1.cell hp, h1.frozen p, h2 p hp, fun w1 w2 g cap ys hB hbs hown hg hgg => ?_⟩
 have hob : (vs p).ownBlock ≠ some ob := fun e => by
   have := ((h2 p hp).lt ob e).1; have := h.lt; omega
 have hobl : ob < w1.heap.size := Nat.lt_of_lt_of_le h1.lt hB.size
 have hrow2 : w2.rowIs ob T n vs := (h1.of_block (hB.block ob h1.lt)).of_block (hg.block ob hobl (fun e => hob e.symm))
 refine ⟨hrow2.cell hp, hrow2.frozen p, ⟨fun i => if i = p then .slice (some ⟨g, 0, none⟩) ys.length cap else vs i, hrow2.set p _, fun q hq => ?_, ?_⟩, h.lt⟩
 · (
 by_cases e : q = p
 · subst e
   simp only [if_true]
   exact ownsRow_setCell_below hown h.lt _
 · (
 simp only [if_neg e]
 have h4 := h2 q hq
 refine ⟨h4.1, ?_⟩
 rcases h4.2 with h5 | ⟨gq, capq, cur, hv, hgq, hh, r⟩
 · exact .inl h5
 · (
 refine .inr ⟨gq, capq, cur, hv, hgq, ?_, r⟩
 have hlt := (Array.getElem?_eq_some_iff.1 hh).1
 have hl := h.lt
 have hqb : (vs q).ownBlock = some gq := by rw [hv]; rfl
 rw [Below.heap_setCell _ _ _ _ (by show gq ≠ ob; omega), hg.block gq (Nat.lt_of_lt_of_le hlt hB.size) (fun e2 => h3 q p gq hq hp e hqb e2.symm), hB.block gq hlt]
 exact hh)))
 · (
 intro a b gg ha hb hab hga
 have key : ∀ q, q < n -> q ≠ p -> (vs q).ownBlock ≠ some g := by (
 intro q hq hqp e2
 rcases hgg with e1 | e1
 · exact h3 p q g hp hq (Ne.symm hqp) e1 e2
 · have := ((h2 q hq).lt g e2).2; omega)
 by_cases e1 : a = p
 · subst e1
   simp only [if_true, Value.ownBlock, Option.some.injEq] at hga
   subst hga
   simp only [if_neg (Ne.symm hab)]
   exact key b hb (Ne.symm hab)
 · (
 simp only [if_neg e1] at hga
 by_cases e2 : b = p
 · (
 subst e2
 simp only [if_true, Value.ownBlock]
 intro e3
 simp only [Option.some.injEq] at e3
 subst e3
 exact key a ha e1 hga)
 · simp only [if_neg e2]; exact h3 a b gg ha hb hab hga))
end
end Go.Proofs.YtgikimbafakmcaaGreatDoor
namespace Go.Proofs.YtgikimbafakmcaaGreatDoor
open Go.RowKit Pl
section
variable {w0 wr w' : World} {B WB LB NB IB CB n : Nat} {gp : Value} {low num cls : Nat -> Int} {iso : Nat -> Bool} {met found : Int} {ol : List Int} {sl : List E} {vo vs : Value}
end
end Go.Proofs.YtgikimbafakmcaaGreatDoor
