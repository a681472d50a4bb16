/-
 Lemmas.
-/
import Derived.Test.YtebmlhaoeldhkaaGreatDoorGFault
import Derived.Test.YtebmlhaoeldhkaaGreatDoorGBrP
import Derived.Lib.SmallJoins
import Derived.MapViews
import Derived.Deep.AppendLies
import Derived.Deep.RegionLaw
import Derived.Test.YtebmlhaoeldhkaaGreatDoorGGraphA
set_option maxRecDepth 100000
namespace Go.Proofs.YtebmlhaoeldhkaaGreatDoor
open Go.RowKit Go.ChangeShapes Pl
def encSv (x : S) : Value := .agg #[.int .i64 x.1, .int .i64 x.2]
def okS (x : S) : Prop := (Lit.int .i64 x.1).wf = true /\ (Lit.int .i64 x.2).wf = true
def encU (_ : Unit) : Value := .agg #[]
end Go.Proofs.YtebmlhaoeldhkaaGreatDoor
namespace Go.Proofs.YtebmlhaoeldhkaaGreatDoor
open Go.RowKit Pl
structure Rw where
 T : TypeId
 k : Nat
 v : Value
 n : Nat
 xs : List Value
structure Rws (w0 w : World) (L : List Rw) : Prop where
 bel : Below w0.heap.size w0 w
 own : ∀ r ∈ L, w.ownsRow w0.heap.size r.T r.k r.v r.n r.xs
 apart : L.Pairwise (fun a b => ∀ g, a.v.ownBlock = some g -> b.v.ownBlock ≠ some g)
section
variable {w0 w w' w1 : World} {L : List Rw} {r : Rw}
theorem own_blockR {base : Nat} {e : TypeId} {k n : Nat} {v : Value} {xs : List Value} (h : w.ownsRow base e k v n xs) (hb : ∀ g, v.ownBlock = some g -> w'.heap[g]? = w.heap[g]?) : w'.ownsRow base e k v n xs := by
 refine ⟨h.1, ?_⟩
 rcases h.2 with h2 | ⟨g, cap, cur, hv, hbg, hg, r⟩
 · exact .inl h2
 · exact .inr ⟨g, cap, cur, hv, hbg, by rw [hb g (by rw [hv]; rfl)]; exact hg, r⟩
theorem Rws.call (h : Rws w0 w L) (hB : Below w.heap.size w w') : Rws w0 w' L :=
 ⟨h.bel.trans (hB.mono h.bel.size), fun r hr => own_below (h.own r hr) hB, h.apart⟩
theorem Rws.drew (h : Rws w0 w L) : Rws w0 w.drew L := h.call (Below.refl _ _).drew
theorem Rws.drewN (h : Rws w0 w L) (m : Nat) : Rws w0 (w.drewN m) L := h.call (bdrew (Below.refl _ _))
theorem Rws.alloc (h : Rws w0 w L) (o : Obj) : Rws w0 (w.alloc o) L := h.call ((Below.refl _ _).alloc (Nat.le_refl _) o)
theorem Rws.get (h : Rws w0 w L) {i : Nat} (hi : L[i]? = some r) : w.ownsRow w0.heap.size r.T r.k r.v r.n r.xs := h.own r (List.mem_of_getElem? hi)
theorem Rws.nil (hB : Below w0.heap.size w0 w) : Rws w0 w [] := ⟨hB, fun _ h => by simp at h, .nil⟩
theorem Rws.ne (h : Rws w0 w L) {i j : Nat} {a b : Rw} (hi : L[i]? = some a) (hj : L[j]? = some b) (hij : i ≠ j) {g : Nat} (ha : a.v.ownBlock = some g) : b.v.ownBlock ≠ some g := by
 have hp := List.pairwise_iff_getElem.1 h.apart
 obtain ⟨hil, rfl⟩ := List.getElem?_eq_some_iff.1 hi
 obtain ⟨hjl, rfl⟩ := List.getElem?_eq_some_iff.1 hj
 rcases Nat.lt_or_gt_of_ne hij with hlt | hlt
 · exact hp i j hil hjl hlt g ha
 · intro hb
   exact hp j i hjl hil hlt g hb ha
theorem Rws.put (h : Rws w0 w L) {i : Nat} {a b : Rw} (hi : L[i]? = some a) (hB : Below w0.heap.size w0 w1)
   (hk : ∀ g, a.v.ownBlock ≠ some g -> g < w.heap.size -> w1.heap[g]? = w.heap[g]?) (ho : w1.ownsRow w0.heap.size b.T b.k b.v b.n b.xs)
   (hl : ∀ g, b.v.ownBlock = some g -> a.v.ownBlock = some g ∨ w.heap.size <= g) : Rws w0 w1 (L.set i b) := by
 obtain ⟨hil, hia⟩ := List.getElem?_eq_some_iff.1 hi
 refine ⟨hB, fun r hr => ?_, ?_⟩
 · obtain ⟨j, hj, rfl⟩ := List.getElem_of_mem hr
   rw [List.getElem_set]
   by_cases e : i = j
   · rw [if_pos e]; exact ho
   · rw [if_neg e]
     have hjl : j < L.length := by simpa using hj
     have hjo := h.own L[j] (List.getElem_mem hjl)
     refine own_blockR hjo (fun g hg => hk g (fun e2 => ?_) (hjo.lt g hg).2)
     exact h.ne hi (List.getElem?_eq_getElem hjl) e e2 hg
 · rw [List.pairwise_iff_getElem]
   intro p q hp hq hpq g hg
   rw [List.length_set] at hp hq
   rw [List.getElem_set] at hg ⊢
   have key : ∀ j (hj : j < L.length), i ≠ j -> b.v.ownBlock = some g -> L[j].v.ownBlock = some g -> False := fun j hj e hb hjg => by
     rcases hl g hb with h1 | h1
     · exact h.ne hi (List.getElem?_eq_getElem hj) e h1 hjg
     · have := ((h.own L[j] (List.getElem_mem hj)).lt g hjg).2; omega
   by_cases e1 : i = p
   · rw [if_pos e1] at hg
     rw [if_neg (by omega)]
     exact fun hq2 => key q hq (by omega) hg hq2
   · rw [if_neg e1] at hg
     by_cases e2 : i = q
     · rw [if_pos e2]
       exact fun hb => key p hp e1 hb hg
     · rw [if_neg e2]
       exact h.ne (List.getElem?_eq_getElem hp) (List.getElem?_eq_getElem hq) (by omega) hg
theorem Rws.set (h : Rws w0 w L) (i : Nat) {T : TypeId} {k n m g c : Nat} {xs : List Value} (hi : L[i]? = some ⟨T, k, .slice (some ⟨g, 0, none⟩) m c, n, xs⟩) (j : Nat) (u : Value) :
   Rws w0 (w.setCell ⟨g, j, none⟩ u) (L.set i ⟨T, k, .slice (some ⟨g, 0, none⟩) m c, n, xs.set j u⟩) := by
 have ho := h.get hi
 have hmn : m = n := by
   rcases ho.2 with ⟨h2, _⟩ | ⟨g', cap', cur, hv, _⟩
   · simp at h2
   · simp only [Value.slice.injEq] at hv; exact hv.2.1
 subst hmn
 obtain ⟨h1, h2⟩ := ho.stored j u
 have hg := (ho.lt g rfl).1
 refine h.put hi (h.bel.setCell hg _) (fun b hb _ => Below.heap_setCell _ _ _ _ (fun e => hb (by simp [Value.ownBlock, e]))) h1 (fun b hb => .inl hb)
theorem Rws.grown {w2 : World} (h : Rws w0 w L) (hB2 : Below w.heap.size w w2) (i : Nat) {T : TypeId} {k n n' : Nat} {v v' : Value} {xs xs' : List Value} (hi : L[i]? = some ⟨T, k, v, n, xs⟩) (ho : w1.ownsRow w0.heap.size T k v' n' xs') (hg : w2.grownBy w1 v.ownBlock)
   (hl : ∀ g, v'.ownBlock = some g -> v.ownBlock = some g ∨ w.heap.size <= g) : Rws w0 w1 (L.set i ⟨T, k, v', n', xs'⟩) :=
 h.put hi ((h.bel.trans (hB2.mono h.bel.size)).grown hg (Nat.le_trans h.bel.size hB2.size) (fun b hb => ((h.get hi).lt b hb).1))
   (fun b hb hl => (hg.block b (Nat.lt_of_lt_of_le hl hB2.size) (fun e => hb e.symm)).trans (hB2.block b hl)) ho hl
theorem Rws.add (h : Rws w0 w L) {T : TypeId} {k n : Nat} {v : Value} {xs : List Value} (hB : Below w.heap.size w w1) (ho : w1.ownsRow w.heap.size T k v n xs) : Rws w0 w1 (⟨T, k, v, n, xs⟩ :: L) where
 bel := h.bel.trans (hB.mono h.bel.size)
 own r hr := by
   rcases List.mem_cons.1 hr with rfl | hr
   · exact own_mono ho h.bel.size
   · exact own_below (h.own r hr) hB
 apart := by
   refine List.pairwise_cons.2 ⟨fun b hb g hg hg2 => ?_, h.apart⟩
   have := (ho.lt g hg).1
   have := ((h.own b hb).lt g hg2).2
   omega
theorem Rws.addNil (h : Rws w0 w L) (T : TypeId) (k : Nat) : Rws w0 w (⟨T, k, .slice none 0 0, 0, []⟩ :: L) :=
 h.add (Below.refl _ _) (World.ownsRow_nil _ _ _ _)
theorem Rws.addLit (h : Rws w0 w L) (cs : Array Value) (T : TypeId) {k n : Nat} (hm : n <= maxLen) (hs : cs.size = n * k) : Rws w0 (w.alloc (.cells cs T)) (⟨T, k, .slice (some ⟨w.heap.size, 0, none⟩) n n, n, cs.toList⟩ :: L) :=
 h.add ((Below.refl _ _).alloc (Nat.le_refl _) _) (World.ownsRow_lit w cs n (Nat.le_refl _) hm hs)
theorem Rws.perm {L' : List Rw} (h : Rws w0 w L) (hp : L.Perm L') : Rws w0 w L' :=
 ⟨h.bel, fun r hr => h.own r (hp.mem_iff.2 hr), h.apart.perm hp (fun {_ _} h1 g hg hg2 => h1 g hg2 hg)⟩
theorem Rws.sub {L' : List Rw} (h : Rws w0 w L) (hs : L'.Sublist L) : Rws w0 w L' :=
 ⟨h.bel, fun r hr => h.own r (hs.subset hr), h.apart.sublist hs⟩
theorem Rws.form (h : Rws w0 w L) {i : Nat} {T : TypeId} {k n : Nat} {v : Value} {xs : List Value} (hi : L[i]? = some ⟨T, k, v, n, xs⟩) (hn : 0 < n) : ∃ g c, v = .slice (some ⟨g, 0, none⟩) n c /\ n <= c /\ c <= maxLen /\ w0.heap.size <= g /\ g < w.heap.size := by
 have ho := h.get hi
 rcases ho.2 with ⟨_, h2⟩ | ⟨g, c, cur, hv, hb, hg, h3, h4, _⟩
 · have h2 : n = 0 := h2
   omega
 · exact ⟨g, c, hv, h3, h4, hb, (Array.getElem?_eq_some_iff.1 hg).1⟩
theorem Rws.cell (h : Rws w0 w L) {i : Nat} {T : TypeId} {k n m g c : Nat} {xs : List Value} (hi : L[i]? = some ⟨T, k, .slice (some ⟨g, 0, none⟩) m c, n, xs⟩) {j : Nat} {u : Value} (hj : xs[j]? = some u) : w.cell? ⟨g, j, none⟩ = some u := by
 have ho := h.get hi
 have := ho.cells rfl j u hj
 have hadd : (⟨g, 0, none⟩ : Addr).add j = ⟨g, j, none⟩ := by unfold Addr.add; split <;> simp_all
 rwa [hadd] at this
theorem Rws.fz (h : Rws w0 w L) {i : Nat} {T : TypeId} {k n m g c : Nat} {xs : List Value} (hi : L[i]? = some ⟨T, k, .slice (some ⟨g, 0, none⟩) m c, n, xs⟩) (j : Nat) : w.frozen? ⟨g, j, none⟩ = false := by
 have ho := h.get hi
 rcases ho.2 with ⟨h2, _⟩ | ⟨g', c', cur, hv, _, hg, _⟩
 · simp at h2
 · simp only [Value.slice.injEq, Option.some.injEq, Addr.mk.injEq, and_true] at hv
   obtain ⟨rfl, _⟩ := hv
   simp [World.frozen?, hg]
theorem Rws.lt (h : Rws w0 w L) {i : Nat} {T : TypeId} {k n m g c : Nat} {xs : List Value} (hi : L[i]? = some ⟨T, k, .slice (some ⟨g, 0, none⟩) m c, n, xs⟩) : w0.heap.size <= g /\ g < w.heap.size := (h.get hi).lt g rfl
theorem Rws.sl (h : Rws w0 w L) {α : Type} {enc : α -> List Value} {i : Nat} {T : TypeId} {k n : Nat} {v : Value} {ys : List α} (hi : L[i]? = some ⟨T, k, v, n, ys.flatMap enc⟩) (hk : ∀ x, (enc x).length = k) (hn : n = ys.length) :
   ∃ a c b, v = .slice a ys.length c /\ ys.length <= c /\ c <= maxLen /\ SlAt enc k w a b 0 ys /\ (0 < ys.length -> w0.heap.size <= b) := by
 subst hn
 exact slAt_own hk (h.get hi)
end
theorem wpList_lie {P : Program} {w : World} {ops : Array Oper} {rest : List Oper} {o : Oper} {a : Act} {Q : Exit -> Act -> World -> Prop} (hgd : o.guard = none) (s x : Operand) (t : TypeId)
   (ho : o.op = .call { callee := .builtin .append, args := #[s, x], argTypes := #[t, t] })
   {e : TypeId} {size bytes : Nat} {z : Value} (R : IsRow P t e size bytes z) {base : Nat} (hb0 : base <= w.heap.size)
   {v : Value} {n : Nat} {xs : List Value} (hs : a.eval s = v) (hown : w.ownsRow base e size v n xs)
   (ad : Addr) (m c : Nat) (news : List Value) (hx : a.eval x = .slice (some ad) m c) (hl : news.length = m * size) (hnews : ∀ j u, news[j]? = some u -> w.cell? (ad.add j) = some u) (h1 : ∀ u ∈ news, u.oneCell' = true) (hm : 0 < m)
   (hbytes : (n + m) * bytes <= 140737488355328) (hmax : n + m <= maxLen) (B : Nat) (hB : B <= w.heap.size)
   (h : ∀ g cap w', w'.ownsRow base e size (.slice (some ⟨g, 0, none⟩) (n + m) cap) (n + m) (xs ++ news) -> w.grownBy w' v.ownBlock -> (v.ownBlock = some g ∨ B <= g) -> g < w'.heap.size -> wpList P ops Q rest (a.put o.dst (.slice (some ⟨g, 0, none⟩) (n + m) cap)) w') : wpList P ops Q (o :: rest) a w := by
 obtain ⟨i, hi, hz, hsz, hby⟩ := R.info
 exact wpList_plain hgd fun _ hK => wp_append_lies w s x t ho base e i z size bytes R.ht hi hz hsz hby R.zs R.pos v n xs hs hown ad m c news hx hl hnews h1 hm hmax hbytes hb0 w.heap.size rfl (fun g cap w' h2 h3 h4 h5 => hK _ _ (h g cap w' h2 h3 (h4.imp_right (fun e => by omega)) h5))
theorem step_lie {P : Program} {w : World} {ops : Array Oper} {o : Oper} {a : Act} {K : Act -> World -> Prop} {Q : Exit -> Act -> World -> Prop} {F : Prop} (hgd : o.guard = none) (s x : Operand) (t : TypeId)
   (ho : o.op = .call { callee := .builtin .append, args := #[s, x], argTypes := #[t, t] })
   {e : TypeId} {size bytes : Nat} {z : Value} (R : IsRow P t e size bytes z) {base : Nat} (hb0 : base <= w.heap.size)
   {v : Value} {n : Nat} {xs : List Value} (hs : a.eval s = v) (hown : w.ownsRow base e size v n xs)
   (ad : Addr) (m c : Nat) (news : List Value) (hx : a.eval x = .slice (some ad) m c) (hl : news.length = m * size) (hnews : ∀ j u, news[j]? = some u -> w.cell? (ad.add j) = some u) (h1 : ∀ u ∈ news, u.oneCell' = true) (hm : 0 < m)
   (hbytes : (n + m) * bytes <= 140737488355328) (hmax : n + m <= maxLen) (B : Nat) (hB : B <= w.heap.size)
   (h : ∀ g cap w', w'.ownsRow base e size (.slice (some ⟨g, 0, none⟩) (n + m) cap) (n + m) (xs ++ news) -> w.grownBy w' v.ownBlock -> (v.ownBlock = some g ∨ B <= g) -> g < w'.heap.size -> K (a.put o.dst (.slice (some ⟨g, 0, none⟩) (n + m) cap)) w') :
   if Region.wanted o (yielded ops a.tmps) = true then Oper.wp P o a w K Q else F := by
 have hw : Region.wanted o (yielded ops a.tmps) = true := by simp [Region.wanted, hgd]
 rw [if_pos hw]
 obtain ⟨i, hi, hz, hsz, hby⟩ := R.info
 exact wp_append_lies w s x t ho base e i z size bytes R.ht hi hz hsz hby R.zs R.pos v n xs hs hown ad m c news hx hl hnews h1 hm hmax hbytes hb0 w.heap.size rfl (fun g cap w' h2 h3 h4 h5 => h g cap w' h2 h3 (h4.imp_right (fun e => by omega)) h5)
end Go.Proofs.YtebmlhaoeldhkaaGreatDoor
namespace Go.Proofs.YtebmlhaoeldhkaaGreatDoor
open Go.RowKit Go.ChangeShapes Pl
def encEv (x : E) : Value := .agg #[.int .i64 x.1, .int .i64 x.2.1, .int .i64 x.2.2]
def okE (x : E) : Prop := (Lit.int .i64 x.1).wf = true /\ (Lit.int .i64 x.2.1).wf = true /\ (Lit.int .i64 x.2.2).wf = true
def encNv (x : Int) : Value := .int .i64 x
def okN (x : Int) : Prop := (Lit.int .i64 x).wf = true
theorem zeroNum (w : World) : (zeroValue 3).run Tryz.prog w = .ok (.int .i64 0) w := by kernel_rfl
end Go.Proofs.YtebmlhaoeldhkaaGreatDoor
namespace Go.Proofs.YtebmlhaoeldhkaaGreatDoor
open Go.RowKit Pl
def fil (label : Int) (ss : List S) : List Value := (ss.filter (fun s => s.1 == label)).map fun s => .int .i64 s.2
theorem fil_snoc (label : Int) (ss : List S) (k : Nat) (h : k < ss.length) : fil label (ss.take (k+1)) = fil label (ss.take k) ++ (if (ss.getD k (0,0)).1 == label then [.int .i64 (ss.getD k (0,0)).2] else []) := by
 rw [List.take_succ_eq_append_getElem h]
 unfold fil
 rw [List.filter_append, List.map_append]
 simp only [List.getD, List.getElem?_eq_getElem h, Option.getD_some]
 by_cases hx : (ss[k].1 == label) = true <;> simp [List.filter, hx]
theorem fil_le (label : Int) (ss : List S) (k : Nat) : (fil label (ss.take k)).length <= ss.length := by
 unfold fil; rw [List.length_map]; exact Nat.le_trans (List.length_filter_le _ _) (by simp; omega)
theorem with_any (a : Option Addr) (b off c : Nat) (ss : List S) (label : Int) (w : World) (hlen : ss.length <= 20000)
   (ha : 0 < ss.length -> a = some ⟨b, off, none⟩) (hb : b < w.heap.size)
   (h0 : ∀ i, i < ss.length -> w.cell? ⟨b, off + i * 2, none⟩ = some (.int .i64 (ss.getD i (0,0)).1))
   (h1 : ∀ i, i < ss.length -> w.cell? ⟨b, off + i * 2 + 1, none⟩ = some (.int .i64 (ss.getD i (0,0)).2)) :
   Calls Tryz.prog 170 #[.slice a ss.length c, .int .i64 label] w fun e w' =>
     ∃ v, e = .returned v /\ w'.ownsRow w.heap.size 3 1 v ((fil label ss).length) (fil label ss) /\ Below w.heap.size w w' := by
 go_enter Tryz.func170, Tryz.ntmps170
 go_wp2
 go_loopw [5, 10] (fun v i wr => ∃ k : Nat, k <= ss.length /\ i = .int .i64 k /\ wr.ownsRow w.heap.size 3 1 v ((fil label (ss.take k)).length) (fil label (ss.take k)) /\ Below w.heap.size w wr)
   (fun _ i _ => ss.length - (intOf i).toNat)
 case atStart => exact ⟨0, Nat.zero_le _, rfl, World.ownsRow_nil _ _ _ _, Below.refl _ _⟩
 case round =>
   obtain ⟨k, hk, rfl, hown, hnx⟩ := hrel
   by_cases hlt : k < ss.length
   · obtain rfl := ha (by omega)
     have hs := fil_snoc label ss k hlt
     obtain ⟨x, hx⟩ : ∃ x, x = ss.getD k (0,0) := ⟨_, rfl⟩
     have hc0 : wr.cell? ⟨b, off + k * 2, none⟩ = some (.int .i64 x.1) := by rw [hx]; exact (hnx.cell (by exact hb)).trans (h0 k hlt)
     have hc1 : wr.cell? ⟨b, off + k * 2 + 1, none⟩ = some (.int .i64 x.2) := by rw [hx]; exact (hnx.cell (by exact hb)).trans (h1 k hlt)
     have hbr : b < wr.heap.size := Nat.lt_of_lt_of_le hb hnx.size
     rw [<- hx] at hs
     have hle := fil_le label ss k
     have hsz := hnx.size
     clear h0 h1 hx ha
     generalize fil label (ss.take k) = f at *
     by_cases hxl : (x.1 == label) = true
     · rw [if_pos hxl] at hs
       have HS := Lib.hid hs; clear hs
       go_wp2_with (at_builtin; refine wpList_app rfl _ _ _ rfl rowI ((hnx.alloc hsz _).alloc (by simp; omega) _) (by simp; omega) rfl ((hown.alloc _).alloc _) ⟨wr.heap.size + 1, 0, none⟩ 1 1 [.int .i64 x.2] rfl rfl (cells1 (by simp [go_sem])) (by simp [Value.oneCell']) (by omega) (by unfold maxLen; omega) ?_; intro v' w1 hown1 hb1 _)
       clear hown hnx
       go_roundw
       case rel => exact ⟨k + 1, by omega, by go_num, by rw [HS.out]; simpa using hown1, hb1⟩
       case measure => simp [intOf]; omega
     · rw [if_neg hxl] at hs
       have hxl' : (x.1 == label) = false := by simpa using hxl
       have HS := Lib.hid hs; clear hs
       clear hxl
       go_wp2
       go_roundw
       case rel => exact ⟨k + 1, by omega, by go_num, by rw [HS.out]; simpa using hown.alloc _, hnx.alloc hsz _⟩
       case measure => simp [intOf]; omega
   · clear h0 h1 ha
     go_wp2
     go_ret
     have : k = ss.length := by omega
     subst this
     exact ⟨_, rfl, by simpa using hown, hnx⟩
theorem with_nil (a : Option Addr) (c : Nat) (label : Int) (w : World) :
   Calls Tryz.prog 170 #[.slice a 0 c, .int .i64 label] w fun e w' =>
     ∃ v, e = .returned v /\ w'.ownsRow w.heap.size 3 1 v 0 [] /\ Below w.heap.size w w' := by
 go_enter Tryz.func170, Tryz.ntmps170
 go_wp2
 refine wp_loop_rounds 1 ?_
 rw [rounds_succ]
 go_wp2
 go_ret
 exact ⟨_, rfl, World.ownsRow_nil _ _ _ _, Below.refl _ _⟩
theorem fil_flat (label : Int) (ss : List S) : fil label ss = (((ss.filter (fun s => s.1 == label)).map fun s => s.2)).flatMap encI := by
 unfold fil
 rw [List.flatMap_map]
 induction (ss.filter (fun s => s.1 == label)) with
 | nil => rfl
 | cons x l ih => simp [ih, encI]
def withL (label : Int) (ss : List S) : List Int := (ss.filter (fun s => s.1 == label)).map fun s => s.2
theorem with_sl {a : Option Addr} {b off c : Nat} {ss : List S} {w : World} (h : SlAt encS 2 w a b off ss) (hlen : ss.length <= 20000) (label : Int) :
   Calls Tryz.prog 170 #[.slice a ss.length c, .int .i64 label] w fun e w' =>
     ∃ v, e = .returned v /\ w'.ownsRow w.heap.size 3 1 v (withL label ss).length ((withL label ss).flatMap encI) /\ Below w.heap.size w w' := by
 by_cases h0 : 0 < ss.length
 · refine (with_any a b off c ss label w hlen h.ad (h.lt h0) (fun i hi => ?_) (fun i hi => ?_)).mono ?_
   · obtain ⟨x, hx⟩ := getElem?_of_lt hi
     rw [List.getD, hx]; exact h.s0 hx
   · obtain ⟨x, hx⟩ := getElem?_of_lt hi
     rw [List.getD, hx]; exact h.s1 hx
   · rintro e w' ⟨v, rfl, ho, hB⟩
     rw [fil_flat] at ho
     refine ⟨v, rfl, ?_, hB⟩
     have hl : (withL label ss).length = ((withL label ss).flatMap encI).length := by rw [length_flatMap lenI]; omega
     unfold withL at *
     rw [hl]; exact ho
 · have hz : ss = [] := List.eq_nil_of_length_eq_zero (by omega)
   subst hz
   exact with_nil a c label w
end Go.Proofs.YtebmlhaoeldhkaaGreatDoor
