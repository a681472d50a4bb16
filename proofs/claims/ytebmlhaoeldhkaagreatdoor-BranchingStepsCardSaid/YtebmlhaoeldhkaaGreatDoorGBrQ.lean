/-
 Lemmas.
-/
import Derived.Test.YtebmlhaoeldhkaaGreatDoorGBrP
import Derived.Test.YtebmlhaoeldhkaaGreatDoorGKeyS
import Derived.Test.YtebmlhaoeldhkaaGreatDoorGTauJ
import Derived.Test.YtebmlhaoeldhkaaGreatDoorTauK
import Derived.Test.YtebmlhaoeldhkaaGreatDoorGGraphA
import Derived.Test.YtebmlhaoeldhkaaGreatDoorGCanon
import Derived.StringKeys
import Derived.Test.YtebmlhaoeldhkaaGreatDoorGGraphC
namespace Go.Proofs.YtebmlhaoeldhkaaGreatDoor
namespace Pl
theorem nodup_subG {α : Type} [DecidableEq α] : ∀ (L M : List α), L.Nodup -> (∀ x ∈ L, x ∈ M) -> L.length <= M.length
 | [], M, _, _ => Nat.zero_le _
 | x :: L, M, hn, hs => by
   rw [List.nodup_cons] at hn
   have ih := nodup_subG L (M.erase x) hn.2 (fun y hy => (List.mem_erase_of_ne (fun e : y = x => hn.1 (e ▸ hy))).2 (hs y (List.mem_cons_of_mem _ hy)))
   have h1 := List.length_erase_of_mem (hs x (by simp))
   have h2 := List.length_pos_of_mem (hs x (by simp))
   rw [List.length_cons]; omega
theorem srtS_nodup {L : List S} (h : Srt ltS L) : L.Nodup := List.Pairwise.imp (fun {a b} hab e => by subst e; rw [stoS.irrefl] at hab; cases hab) h
theorem SigOk.len {s : Lts} {C : Nat -> Int} {p : Nat} {L : List S} (h : SigOk s C p L) : L.length <= s.es.length := by
 have h1 := nodup_subG L (s.es.map (fun e => (e.2.1, C e.2.2.toNat))) (srtS_nodup h.srt) (fun x hx => by
   obtain ⟨l, e⟩ := x
   obtain ⟨q, t, _, h2, h3, _⟩ := ((h.mem l e).1 hx).way
   exact List.mem_map.2 ⟨((q : Int), l, (t : Int)), h2, by simp only [Int.toNat_natCast]; rw [h3]⟩)
 rwa [List.length_map] at h1
theorem SigOk.rng {s : Lts} (hr : s.Right) {n : Nat} (hn : s.st = (n : Int)) {C : Nat -> Int} {p : Nat} {L : List S} (h : SigOk s C p L) {x : S} (hx : x ∈ L) : 0 <= x.1 /\ x.1 < s.lb /\ ∃ t, t < n /\ x.2 = C t := by
 obtain ⟨l, e⟩ := x
 obtain ⟨q, t, _, h2, h3, _⟩ := ((h.mem l e).1 hx).way
 have h4 := stp_lt hr hn h2
 exact ⟨h4.2.2.1, h4.2.2.2, t, h4.2.1, h3.symm⟩
theorem outs_leB (s : Lts) (p : Int) : (s.outs p).length <= s.es.length := by
 unfold Lts.outs
 rw [List.length_map]; exact List.length_filter_le _ _
theorem share_len {C : Nat -> Int} {F : Nat -> List S} {p k : Nat} (hk : 1 <= k) (hF : ∀ t, (F t).length <= k) : ∀ L : List S, (L.flatMap (shareB C F p)).length <= L.length * k
 | [] => by simp
 | x :: L => by
   have ih := share_len (p := p) hk hF L (C := C)
   have h1 : (shareB C F p x).length <= k := by
     unfold shareB
     split
     · exact hF _
     · simpa using hk
   rw [List.flatMap_cons, List.length_append, List.length_cons, Nat.succ_mul]
   omega
theorem canon_zeroB (n : Nat) : canon (fl n (fun _ => 0)) = fl n (fun _ => 0) := by
 rw [canon_fl]
 unfold fl
 apply List.map_congr_left
 intro i hi
 have h1 := clf_rng (f := fun _ => (0 : Int)) (List.mem_range.1 hi)
 have h2 : (dist (fl n (fun _ => (0 : Int)))).length <= 1 := by
   have := nodup_subI (dist (fl n (fun _ => (0 : Int)))) [0] (nodup_dist _) (fun x hx => by
     obtain ⟨p, _, h⟩ := mem_dist_fl.1 hx
     simp [<- h])
   simpa using this
 show clf n (fun _ => 0) i = 0
 omega
theorem next_more {s : Lts} {n : Nat} {C D : Nat -> Int} (hd : NextB s n C D) (h1 : canon (fl n C) = fl n C) (h2 : canon (fl n D) = fl n D) (hne : fl n D ≠ fl n C) : (dist (fl n C)).length < (dist (fl n D)).length := by
 have href : ∀ p q, p < n -> q < n -> D p = D q -> C p = C q := fun p q hp hq e => ((hd p q hp hq).1 e).1
 by_cases h : ∀ p q, p < n -> q < n -> C p = C q -> D p = D q
 · exact absurd (canon_same_list h2 h1 (fun p q hp hq => ⟨href p q hp hq, h p q hp hq⟩)) hne
 · have : ∃ a b, a < n /\ b < n /\ C a = C b /\ D a ≠ D b := by
     apply Classical.byContradiction
     intro hno
     exact h (fun p q hp hq e => Classical.byContradiction (fun e2 => hno ⟨p, q, hp, hq, e, e2⟩))
   obtain ⟨a, b, ha, hb, e1, e2⟩ := this
   exact more_classes href ha hb e1 e2
theorem fl_inj {n : Nat} {f g : Nat -> Int} (h : fl n f = fl n g) {p : Nat} (hp : p < n) : f p = g p := by
 have h1 := fl_get f hp
 rw [h, fl_get g hp] at h1
 exact (Option.some.inj h1).symm
theorem still_done {s : Lts} {n : Nat} {C D : Nat -> Int} (hd : NextB s n C D) (he : fl n D = fl n C) : Still s n C := fun p q hp hq e _ _ hs =>
 (((hd p q hp hq).1 (by rw [fl_inj he hp, fl_inj he hq]; exact e)).2 _ _).1 hs
/-! the numbers of texts -/
def codeT (T : List (List UInt8)) (z : List UInt8) : Int := (T.idxOf z : Int)
theorem codeT_inj {T : List (List UInt8)} {y z : List UInt8} (hy : y ∈ T) (hz : z ∈ T) (h : codeT T y = codeT T z) : y = z := by
 unfold codeT at h
 have h1 := List.getElem_idxOf (List.idxOf_lt_length_of_mem hy)
 have h2 := List.getElem_idxOf (List.idxOf_lt_length_of_mem hz)
 rw [<- h1, <- h2]
 congr 1
 omega
def numT (T : List (List UInt8)) (D : List Int) (z : List UInt8) : Option Int := if z ∈ T /\ codeT T z ∈ D then some (D.idxOf (codeT T z) : Int) else none
theorem numT_nil (T : List (List UInt8)) (z : List UInt8) : numT T [] z = none := by unfold numT; simp
theorem numT_push {T : List (List UInt8)} {D : List Int} {y : List UInt8} (hy : y ∈ T) (hD : codeT T y ∉ D) (z : List UInt8) : (if z = y then some (D.length : Int) else numT T D z) = numT T (D ++ [codeT T y]) z := by
 unfold numT
 by_cases e : z = y
 · subst e
   rw [if_pos rfl, if_pos ⟨hy, by simp⟩, List.idxOf_append]
   simp [hD]
 · rw [if_neg e]
   by_cases hz : z ∈ T
   · have hne : codeT T z ≠ codeT T y := fun h => e (codeT_inj hz hy h)
     by_cases h : codeT T z ∈ D
     · rw [if_pos ⟨hz, h⟩, if_pos ⟨hz, by simp [h]⟩, List.idxOf_append]
       simp [h]
     · rw [if_neg (fun k => h k.2), if_neg]
       rintro ⟨_, k⟩
       rcases List.mem_append.1 k with k | k
       · exact h k
       · simp at k; exact hne k
   · rw [if_neg (fun k => hz k.1), if_neg (fun k => hz k.1)]
def txtL (n : Nat) (C : Nat -> Int) (F : Nat -> List S) : List (List UInt8) := (List.range n).map (fun p => textB (C p) (F p))
theorem txtL_mem {n : Nat} {C : Nat -> Int} {F : Nat -> List S} {p : Nat} (hp : p < n) : textB (C p) (F p) ∈ txtL n C F := List.mem_map.2 ⟨p, List.mem_range.2 hp, rfl⟩
def cdG (n : Nat) (C : Nat -> Int) (F : Nat -> List S) (p : Nat) : Int := codeT (txtL n C F) (textB (C p) (F p))
theorem cdG_eq {n : Nat} {C : Nat -> Int} {F : Nat -> List S} {p q : Nat} (hp : p < n) (hq : q < n) : cdG n C F p = cdG n C F q ↔ textB (C p) (F p) = textB (C q) (F q) :=
 ⟨codeT_inj (txtL_mem hp) (txtL_mem hq), fun h => by unfold cdG; rw [h]⟩
end Pl
end Go.Proofs.YtebmlhaoeldhkaaGreatDoor
namespace Go.Proofs.YtebmlhaoeldhkaaGreatDoor
open Go.RowKit Pl Go.Maps
section
variable {α : Type} {enc : α -> List Value} {k : Nat} {e T : TypeId} {w w' : World} {base ob n : Nat} {f : Nat -> List α}
theorem OwnRows.congr {g : Nat -> List α} (h : OwnRows enc k e T w base ob n f) (hf : ∀ i, f i = g i) : OwnRows enc k e T w base ob n g := by
 have : f = g := funext hf
 rw [<- this]; exact h
theorem OwnRows.put (h : OwnRows enc k e T w base ob n f) {p : Nat} (hB : Below w.heap.size w w') (hbs : base <= w.heap.size) {v : Value} {ys : List α} (ho : w'.ownsRow w.heap.size e k v ys.length (ys.flatMap enc)) :
   OwnRows enc k e T (w'.setCell ⟨ob, p, none⟩ v) base ob n (fun i => if i = p then ys else f i) := by
 obtain ⟨vs, h1, h2, h3⟩ := h.ex
 refine ⟨⟨fun i => if i = p then v else vs i, (h1.of_block (hB.block ob h1.lt)).set p v, fun q hq => ?_, ?_⟩, h.lt⟩
 · by_cases e1 : q = p
   · subst e1
     simp only [if_true]
     exact ownsRow_setCell_below (own_mono ho hbs) h.lt _
   · simp only [if_neg e1]
     exact ownsRow_setCell_below (own_below (h2 q hq) hB) h.lt _
 · intro a b g ha hb hab hga
   by_cases e1 : a = p
   · subst e1
     simp only [if_true] at hga
     simp only [if_neg (Ne.symm hab)]
     intro e2
     have h4 := (ho.lt g hga).1
     have h5 := ((h2 b hb).lt g e2).2
     omega
   · simp only [if_neg e1] at hga
     by_cases e2 : b = p
     · subst e2
       simp only [if_true]
       intro e3
       have h4 := (ho.lt g e3).1
       have h5 := ((h2 a ha).lt g hga).2
       omega
     · simp only [if_neg e2]; exact h3 a b g ha hb hab hga
end
def encTx (x : List UInt8) : Value := .string ⟨x.toArray⟩
def okTx (x : List UInt8) : Prop := x.length <= 1000000
theorem encTxt : KeyEnc Tryz.prog 9 encTx okTx where
 K := string_keyed Tryz.underlying9
 key x h := ⟨_, Go.WideMaps.keyOf_string_mk Tryz.underlying9 (by unfold maxLen; unfold okTx at h; show x.toArray.size <= _; rw [List.size_toArray]; omega)⟩
 inj x y h := by
   unfold encTx at h
   simp only [Value.string.injEq, ByteArray.mk.injEq] at h
   exact congrArg Array.toList h |>.trans (by rfl) |> fun e => by simpa using e
end Go.Proofs.YtebmlhaoeldhkaaGreatDoor
namespace Go.Proofs.YtebmlhaoeldhkaaGreatDoor
open Go.RowKit Pl
open Lib (hid)
theorem eqlS (x y : S) (w : World) : (binOp .eql 117 (.agg #[.int .i64 x.1, .int .i64 x.2]) (.agg #[.int .i64 y.1, .int .i64 y.2])).run Tryz.prog w = .ok (.bool (decide (x = y))) w := by
 have u3 := Tryz.underlying3
 have a3 := Tryz.isAgg3
 have z3 := Tryz.sizeOf3
 have hS : Tryz.prog.underlying 117 = some (.struct (Tryz.prog.fieldsOf 117)) := by kernel_rfl
 have hp : Tryz.prog.stoodInHeld 117 = false := by kernel_rfl
 rw [run_eql_struct, show (10000 : Nat) = 9999 + 1 from rfl, run_equalIn_agg w 9999 117 _ _ hS hp]
 simp only [Program.fieldsOf, Tryz.underlying117]
 go_simp
 obtain ⟨x1, x2⟩ := x; obtain ⟨y1, y2⟩ := y
 by_cases h1 : x1 = y1 <;> by_cases h2 : x2 = y2 <;> simp [h1, h2]
theorem neqS (x y : S) (w : World) : (binOp .neq 117 (.agg #[.int .i64 x.1, .int .i64 x.2]) (.agg #[.int .i64 y.1, .int .i64 y.2])).run Tryz.prog w = .ok (.bool (!decide (x = y))) w := by
 have h := eqlS x y w
 rw [run_eql_struct] at h
 rw [run_neq_struct]
 cases hr : (Op.equalIn 10000 117 (.agg #[.int .i64 x.1, .int .i64 x.2]) (.agg #[.int .i64 y.1, .int .i64 y.2])).run Tryz.prog w with
 | ok b w' => rw [hr] at h; simp [Result.andThen] at h ⊢; exact ⟨h.1, h.2⟩
 | halt b w' => rw [hr] at h; simp [Result.andThen] at h
theorem guardS : Tryz.prog.eqGuardType Tryz.prog.depth 117 = false := by kernel_rfl
theorem set2 {l : List Value} {i : Nat} {a b : Value} (h : i * 2 + 2 <= l.length) : (l.set (i * 2) a).set (i * 2 + 1) b = l.take (i * 2) ++ [a, b] ++ l.drop (i * 2 + 2) := by
 apply List.ext_getElem?
 intro j
 simp only [List.getElem?_set, List.length_set, List.append_assoc]
 by_cases h1 : j < i * 2
 · rw [if_neg (by omega), if_neg (by omega), List.getElem?_append_left (by simp; omega), List.getElem?_take, if_pos h1]
 · rw [List.getElem?_append_right (by simp; omega)]
   simp only [List.length_take, Nat.min_eq_left (show i * 2 <= l.length by omega)]
   by_cases h2 : j = i * 2
   · subst h2; rw [if_neg (by omega), if_pos rfl, if_pos (by omega)]; simp
   · by_cases h3 : j = i * 2 + 1
     · subst h3; rw [if_pos rfl, if_pos (by omega)]; rw [show i * 2 + 1 - i * 2 = 1 by omega]; rfl
     · rw [if_neg (by omega), if_neg (by omega)]
       rw [show j - i * 2 = (j - (i * 2 + 2)) + 1 + 1 by omega]
       simp only [List.cons_append, List.nil_append, List.getElem?_cons_succ, List.getElem?_drop]
       congr 1; omega
theorem ownS_set {w : World} {base g n cap : Nat} {e : TypeId} {xs : List S} (h : w.ownsRow base e 2 (.slice (some ⟨g, 0, none⟩) n cap) xs.length (xs.flatMap encS)) (hn : n = xs.length) (i : Nat) (x : S) (hi : i < xs.length) :
   ((w.setCell ⟨g, i * 2, none⟩ (.int .i64 x.1)).setCell ⟨g, i * 2 + 1, none⟩ (.int .i64 x.2)).ownsRow base e 2 (.slice (some ⟨g, 0, none⟩) n cap) (xs.set i x).length ((xs.set i x).flatMap encS) := by
 subst hn
 have h1 := (h.stored (i * 2) (.int .i64 x.1)).1.stored (i * 2 + 1) (.int .i64 x.2)
 rw [set2 (by rw [length_flatMap lenS]; omega)] at h1
 replace h1 := h1.1
 rw [flat_set lenS xs i x hi, List.length_set]
 exact h1
theorem below_set2 {w0 w : World} {B g i : Nat} {a b : Value} (h : Below B w0 w) (hg : B <= g) : Below B w0 ((w.setCell ⟨g, i, none⟩ a).setCell ⟨g, i + 1, none⟩ b) :=
 (h.setCell hg _).setCell hg _
theorem clearS {w : World} {base g n cap : Nat} {ys : List S} (h : w.ownsRow base 117 2 (.slice (some ⟨g, 0, none⟩) n cap) ys.length (ys.flatMap encS)) (hn : n = ys.length) (kk c : Nat) (hk : kk < n) :
   ∃ w1, (∀ ty, (Builtin.clear_ #[78] ty #[.slice (some ⟨g, kk * 2, none⟩) (n - kk) c]).run Tryz.prog w = .ok (.tuple #[]) w1) /\
     w1.ownsRow base 117 2 (.slice (some ⟨g, 0, none⟩) kk cap) kk ((ys.take kk).flatMap encS) /\ ∀ {w0 : World}, Below base w0 w -> Below base w0 w1 := by
 subst hn
 rcases h.2 with ⟨h', _⟩ | ⟨g', cap', cur, h', hb, hg, hnc, hcm, hcs, htake⟩
 · simp at h'
 · simp only [Value.slice.injEq, Option.some.injEq, Addr.mk.injEq, and_true, true_and] at h'
   obtain ⟨rfl, rfl⟩ := h'
   obtain ⟨m, hm⟩ : ∃ m, ys.length - kk = m + 1 := ⟨ys.length - kk - 1, by omega⟩
   rw [hm]
   obtain ⟨zs, hzs⟩ : ∃ zs, zs = (Builtin.zeroCells #[.int .i64 0, .int .i64 0] (m + 1)).toList := ⟨_, rfl⟩
   have hz : zs.length = (m + 1) * 2 := by rw [hzs, Array.length_toList, size_zeroCells]; rfl
   have hst := run_storeCells_at Tryz.prog g (kk * 2) 117 zs 0 cur w hg (by rw [hz]; omega) (by rw [hzs]; exact zeroCells_one _ _ (by simp [Value.oneCell']))
   simp only [Nat.add_zero] at hst
   obtain ⟨F, hF⟩ : ∃ F, F = (cur.toList.take (kk * 2) ++ zs ++ cur.toList.drop (kk * 2 + zs.length)).toArray := ⟨_, rfl⟩
   rw [<- hF] at hst
   refine ⟨w.setRow g F, fun ty => ?_, ⟨?_, .inr ⟨g, cap, F, rfl, hb, setRow_heap w g cur _ _ _ hg, by omega, hcm, ?_, ?_⟩⟩, fun {w0} hB => ?_⟩
   · rw [hzs] at hst
     simp only [Builtin.clear_]
     simp [run_underlying Tryz.underlying78, Value.cells, hst]
   · rw [length_flatMap lenS, List.length_take, Nat.min_eq_left (by omega)]
   · rw [hF]
     simp only [List.size_toArray, List.length_append, List.length_take, List.length_drop, Array.length_toList, hz, hcs]
     omega
   · rw [hF, List.append_assoc, List.take_append_of_le_length (by simp; omega), List.take_take, Nat.min_self]
     have : (cur.toList.take (ys.length * 2)).take (kk * 2) = ((ys.flatMap encS)).take (kk * 2) := by rw [htake]
     rw [List.take_take, Nat.min_eq_left (by omega)] at this
     rw [this]
     have h2 := List.take_append_drop kk ys
     have h3 : ys.flatMap encS = (ys.take kk).flatMap encS ++ (ys.drop kk).flatMap encS := by rw [<- List.flatMap_append, h2]
     rw [h3, List.take_append_of_le_length (by rw [length_flatMap lenS]; simp; omega), List.take_of_length_le (by rw [length_flatMap lenS]; simp; omega)]
   · exact hB.trans ⟨rfl, rfl, rfl, by simp [World.setRow], fun k hk => setRow_other w g k _ (by omega)⟩
set_option maxRecDepth 100000 in
set_option maxHeartbeats 1000000 in
theorem compactS_any {g n cap base : Nat} {xs : List S} {w : World} (hown : w.ownsRow base 117 2 (.slice (some ⟨g, 0, none⟩) n cap) xs.length (xs.flatMap encS)) (hn : n = xs.length) (hl : xs.length <= 1000000) (hbg : base <= g) (hcap : n <= cap) :
   Calls Tryz.prog 183 #[.slice (some ⟨g, 0, none⟩) n cap] w fun e w' => ∃ m, e = .returned (.slice (some ⟨g, 0, none⟩) m cap) /\ w'.ownsRow base 117 2 (.slice (some ⟨g, 0, none⟩) m cap) (cmpt xs).length ((cmpt xs).flatMap encS) /\ m = (cmpt xs).length /\ Below base w w' := by
 subst hn
 by_cases h2 : xs.length < 2
 · have hc : cmpt xs = xs := by
     match xs, h2 with
     | [], _ => rfl
     | [x], _ => rfl
   have H := hid hc; have HO := hid hown; clear hc hown
   go_enter Tryz.func183, Tryz.ntmps183
   go_wp2
   go_ret
   exact ⟨_, rfl, by rw [H.out]; exact HO.out, by rw [H.out], Below.refl _ _⟩
 · have HO := hid hown; clear hown
   have hbase := HO.out.lt g rfl
   go_enter Tryz.func183, Tryz.ntmps183
   go_wp2
   go_loopw [3] (fun i wr => ∃ q m : Nat, q + 1 <= xs.length /\ i = .int .i64 (q + 1) /\ cmpt (xs.take (q + 1)) = xs.take (q + 1) /\ wr = w.drewN m)
     (fun i _ => xs.length - (intOf i).toNat)
   case atStart => exact ⟨0, 0, by omega, rfl, by
     match xs, h2 with
     | x :: l, _ => rfl
     | [], h2 => simp at h2, rfl⟩
   case round =>
     obtain ⟨q, m, hq, rfl, hcm, rfl⟩ := hrel
     have HC := hid hcm; clear hcm
     by_cases hlt : q + 1 < xs.length
     · obtain ⟨x, hx⟩ := getElem?_of_lt (show q < xs.length by omega)
       obtain ⟨y, hy⟩ := getElem?_of_lt hlt
       have hS := slAt_row lenS HO.out
       have c0 := hS.s0 hx; have c1 := hS.s1 hx
       have d0 := hS.s0 hy; have d1 := hS.s1 hy
       simp only [Nat.zero_add] at c0 c1 d0 d1
       have heq := fun w => eqlS y x w
       have hgd := guardS
       have HX := hid hx; have HY := hid hy
       clear hS hx hy
       have hi1 : (q : Int) + 1 < (xs.length : Int) := by omega
       have hi2 : (q : Int) < (xs.length : Int) := by omega
       by_cases hxy : y = x
       · have hb : decide (y = x) = true := by simp [hxy]
         have HE := hid hxy; clear hxy
         go_wp2_with fail
         go_quiet (fail)
         go_wp2
         have hHk : cmpt (xs.take (q + 2)) = xs.take (q + 1) := by
           rw [cmpt_take HX.out HY.out, HC.out, if_pos HE.out.symm, List.append_nil]
         have HK := hid hHk; clear hHk
         clear c0 c1 d0 d1 heq hb
         go_loopw [3, 5] (fun i3 i5 wr => ∃ (kk r : Nat) (ys : List S), i3 = .int .i64 kk /\ i5 = .int .i64 (r + 1) /\ q + 1 + r + 1 <= xs.length /\ ys.length = xs.length /\
             wr.ownsRow base 117 2 (.slice (some ⟨g, 0, none⟩) xs.length cap) ys.length (ys.flatMap encS) /\ ys.take kk = cmpt (xs.take (q + 1 + r + 1)) /\ kk <= q + 1 + r /\ (∀ j, q + 1 + r <= j -> ys[j]? = xs[j]?) /\ Below base w wr)
           (fun _ i5 _ => xs.length - (intOf i5).toNat)
         case atStart => exact ⟨q + 1, 0, xs, by go_num, rfl, by omega, rfl, HO.out, HK.out.symm, by omega, fun _ _ => rfl, below_drewN (Below.refl _ _) _⟩
         case round =>
           obtain ⟨kk, r, ys, rfl, rfl, hr, hyl, hown, htk, hkk, hsame, hB⟩ := hrel
           have hsz := hB.size
           have HT := hid htk; have HS := hid hsame; have HW := hid hown; have HYL := hid hyl
           clear htk hsame hown hyl
           by_cases hrt : q + 1 + r + 1 < xs.length
           · obtain ⟨u, hu⟩ := getElem?_of_lt (show q + 1 + r < xs.length by omega)
             obtain ⟨v, hv⟩ := getElem?_of_lt hrt
             have hS := slAt_row lenS (show wr.ownsRow base 117 2 (.slice (some ⟨g, 0, none⟩) xs.length cap) ys.length (ys.flatMap encS) from HW.out)
             have hu' : ys[q + 1 + r]? = some u := by rw [HS.out _ (Nat.le_refl _), hu]
             have hv' : ys[q + 1 + r + 1]? = some v := by rw [HS.out _ (by omega), hv]
             have c0 := hS.s0 hu'; have c1 := hS.s1 hu'
             have d0 := hS.s0 hv'; have d1 := hS.s1 hv'
             simp only [Nat.zero_add] at c0 c1 d0 d1
             rw [show (q + 1 + r) * 2 = (q + 1) * 2 + r * 2 by omega] at c0 c1
             rw [show (q + 1 + r + 1) * 2 = (q + 1) * 2 + (r + 1) * 2 by omega] at d0 d1
             have heq := fun w => neqS v u w
             have HU := hid hu; have HV := hid hv
             have hkl : kk < ys.length := by rw [HYL.out]; omega
             obtain ⟨z, hz⟩ := getElem?_of_lt hkl
             have k0 := hS.s0 hz; have k1 := hS.s1 hz
             simp only [Nat.zero_add] at k0 k1
             have f0 : wr.frozen? ⟨g, kk * 2, none⟩ = false := row_frozen HW.out _
             have f1 : wr.frozen? ⟨g, kk * 2 + 1, none⟩ = false := row_frozen HW.out _
             clear hS hu hv hu' hv' hz
             have hi3 : (kk : Int) < (xs.length : Int) := by omega
             have hi4 : (r : Int) + 1 < (xs.length : Int) - (q + 1) := by omega
             have hi5 : (r : Int) < (xs.length : Int) - (q + 1) := by omega
             by_cases huv : v = u
             · have hb : decide (v = u) = true := by simp [huv]
               have HE := hid huv; clear huv
               go_wp2_with fail
               go_quiet (fail)
               go_wp2
               go_roundw
               case rel => exact ⟨kk, r + 1, ys, rfl, by go_num, by omega, HYL.out, HW.out, by
                 rw [HT.out, show q + 1 + (r + 1) + 1 = q + 1 + r + 2 by omega, cmpt_take HU.out HV.out, if_pos HE.out.symm, List.append_nil], by omega, fun j hj => HS.out j (by omega), below_drewN hB _⟩
               case measure => simp [intOf]; omega
             · have hb : decide (v = u) = false := by simp [huv]
               have HE := hid huv; clear huv
               go_wp2_with fail
               go_quiet (fail)
               go_wp2
               go_roundw
               case rel =>
                 refine ⟨kk + 1, r + 1, ys.set kk v, by go_num, by go_num, by omega, by rw [List.length_set]; exact HYL.out, ?_, by
                   rw [show q + 1 + (r + 1) + 1 = q + 1 + r + 2 by omega, cmpt_take HU.out HV.out, if_neg (fun e => HE.out e.symm), <- HT.out]
                   rw [take_snoc (i := kk) (x := v) (by rw [List.getElem?_set, if_pos rfl, if_pos hkl]), List.take_set_of_le (Nat.le_refl _)], by omega, fun j hj => by
                   rw [List.getElem?_set, if_neg (by omega)]; exact HS.out j (by omega), ?_⟩
                 · exact ownS_set (w := wr.drewN nq) (x := v) HW.out HYL.out.symm kk hkl
                 · exact below_set2 (below_drewN hB _) hbg
               case measure => simp [intOf]; omega
           · have hend : q + 1 + r + 1 = xs.length := by omega
             obtain ⟨w1, hcl, hown1, hB1⟩ := clearS (show wr.ownsRow base 117 2 (.slice (some ⟨g, 0, none⟩) xs.length cap) ys.length (ys.flatMap encS) from HW.out) HYL.out.symm kk (cap - kk) (by omega)
             have hlen : (ys.take kk).length = kk := by rw [List.length_take, HYL.out]; omega
             have HE2 := hid hend; have HO1 := hid hown1; have HLN := hid hlen; have HB1 := hB1 hB
             clear hend hown1 hlen hB1
             have hk1 : (kk : Int) < (cap : Int) := by omega
             go_wp2
             go_ret
             have ht := HT.out
             rw [HE2.out, List.take_of_length_le (Nat.le_refl _)] at ht
             exact ⟨kk, rfl, by rw [<- ht, HLN.out]; exact HO1.out, by rw [<- ht, HLN.out], HB1⟩
       · have hb : decide (y = x) = false := by simp [hxy]
         have HE := hid hxy; clear hxy
         go_wp2_with fail
         go_quiet (fail)
         go_wp2
         go_roundw
         case rel => exact ⟨q + 1, _, by omega, by go_num, by
           rw [show q + 1 + 1 = q + 2 by omega, cmpt_take HX.out HY.out, if_neg (fun e => HE.out e.symm), HC.out, take_snoc HY.out], rfl⟩
         case measure => simp [intOf]; omega
     · have hend : xs.take (q + 1) = xs := List.take_of_length_le (by omega)
       have H := hid hend; clear hend
       go_wp2
       go_ret
       have hc := HC.out
       rw [H.out] at hc
       exact ⟨_, rfl, by rw [hc]; exact HO.out, by rw [hc], below_drewN (Below.refl _ _) _⟩
end Go.Proofs.YtebmlhaoeldhkaaGreatDoor
