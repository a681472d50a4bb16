/-
  An append of a whole list that is read, nil or not.
  system.Check: nil of a system that is one, a fault of any other.
  system.with: where steps of a label lead.
  The graph's methods: own, States, Labels, Start, Out, In, By, From, Edges.
-/
import Derived.Test.YtfakdgljilmpkaaGreatDoorG15
import Derived.Test.YtfakdgljilmpkaaGreatDoorG9
import Derived.Laws.AppendOwnNone
import Derived.Test.YtfakdgljilmpkaaGreatDoorG8
import Derived.Test.YtfakdgljilmpkaaGreatDoorG10
namespace Go.Proofs.YtfakdgljilmpkaaGreatDoor
open Go.RowKit Pl

theorem flat_slice {α : Type} {enc : α → List Value} {k : Nat} {w : World} {a : Option Addr} {ad : Addr} {b off : Nat} {xs : List α} (hk : ∀ x, (enc x).length = k) (h1 : ∀ x, ∀ u ∈ enc x, u.oneCell' = true) (hS : SlAt enc k w a b off xs) (ha : a = some ad) :
    (∀ j u, (xs.flatMap enc)[j]? = some u → w.cell? (ad.add j) = some u) ∧ (∀ u ∈ xs.flatMap enc, u.oneCell' = true) ∧ (xs.flatMap enc).length = xs.length * k := by
  refine ⟨fun j u hu => ?_, fun u hu => ?_, length_flatMap hk xs⟩
  · have hp : 0 < xs.length := by
      rcases Nat.eq_zero_or_pos xs.length with h | h
      · rw [List.eq_nil_of_length_eq_zero h] at hu; simp at hu
      · exact h
    have had := hS.ad hp
    rw [ha] at had
    cases had
    exact slAt_flat hk hS j u hu
  · obtain ⟨y, _, hy⟩ := List.mem_flatMap.1 hu
    exact h1 y u hy

theorem wpList_appS {P : Program} {w : World} {ops : Array Oper} {rest : List Oper} {o : Oper} {a : Act} {Q : Exit → Act → World → Prop} (hgd : o.guard = none) (s x : Operand) (t : TypeId)
    (ho : o.op = .call { callee := .builtin .append, args := #[s, x], argTypes := #[t, t] })
    {e : TypeId} {size bytes : Nat} {z : Value} (R : IsRow P t e size bytes z) {base : Nat} (hb0 : base ≤ w.heap.size)
    {v : Value} {n : Nat} {xs : List Value} (hs : a.eval s = v) (hown : w.ownsRow base e size v n xs)
    {α : Type} {enc : α → List Value} {ys : List α} {sa : Option Addr} {b off c : Nat} (hk : ∀ x, (enc x).length = size) (h1 : ∀ x, ∀ u ∈ enc x, u.oneCell' = true) (hS : SlAt enc size w sa b off ys) (hx : a.eval x = .slice sa ys.length c)
    (hbytes : (n + ys.length) * bytes ≤ 140737488355328) (hmax : n + ys.length ≤ maxLen)
    (h : ∀ v' w', w'.ownsRow base e size v' (n + ys.length) (xs ++ ys.flatMap enc) → w.grownBy w' v.ownBlock → wpList P ops Q rest (a.put o.dst v') w') : wpList P ops Q (o :: rest) a w := by
  cases sa with
  | some ad =>
    obtain ⟨g1, g2, g3⟩ := flat_slice hk h1 hS rfl
    exact wpList_app (w0 := w) hgd s x t ho R (Below.refl base w) hb0 hs hown ad ys.length c _ hx g3 g1 g2 hbytes hmax (fun v' w' h2 _ h3 => h v' w' h2 h3)
  | none =>
    have h0 : ys = [] := by
      rcases Nat.eq_zero_or_pos ys.length with h | h
      · exact List.eq_nil_of_length_eq_zero h
      · have := hS.ad h; cases this
    subst h0
    obtain ⟨i, hi, _⟩ := R.info
    refine wpList_plain hgd fun K hK => ?_
    have hrun : (Builtin.append_ #[t, t] o.type #[v, .slice none 0 c]).run P w = .ok v w := by
      rcases hown.2 with ⟨rfl, rfl⟩ | ⟨g, cap, cur, rfl, _, _, hnc, _⟩
      · simp [Builtin.append_, run_underlying R.ht, sizeOf, typeInfo, hi, Builtin.lenOf, Builtin.firstCells]
      · simp [Builtin.append_, run_underlying R.ht, sizeOf, typeInfo, hi, Builtin.lenOf, Builtin.firstCells, hnc, storeCells]
    have hx' : a.eval x = .slice none 0 c := hx
    unfold Oper.wp
    simp [execOp, ho, resolve, invoke, builtin, hs, hx', hrun, Result.andThen]
    exact hK _ _ (h v w (by simpa using hown) ⟨rfl, rfl, rfl, Nat.le_refl _, fun _ _ _ => rfl⟩)
end Go.Proofs.YtfakdgljilmpkaaGreatDoor

namespace Go.Proofs.YtfakdgljilmpkaaGreatDoor
open Go.RowKit Pl

theorem check_ok {p : Addr} {s : Lts} (h : s.Right) (a : Option Addr) (b off c : Nat) (w : World) (hG : GErr 0 p w) (hS : SlAt encE 3 w a b off s.es) :
    Calls Tryz.prog 37 #[.agg #[.int .i64 s.st, .int .i64 s.lb, .int .i64 s.s0, .slice a s.es.length c]] w fun e w' => e = .returned .nilIface ∧ Below w.heap.size w w' := by
  refine (check_body s.st s.lb s.s0 a b off c s.es w hG h.head hS).mono ?_
  rintro e w' ⟨h1, h2⟩
  have : s.es.all (fun x => !offB s.st s.lb x) = true := by rw [List.all_eq_true]; intro x hx; simp [h.edges x hx]
  unfold CheckPost at h1
  rw [this] at h1
  exact ⟨h1, h2⟩

theorem check_no {p : Addr} {s : Lts} (h : ¬ s.Right) (a : Option Addr) (b off c : Nat) (w : World) (hG : GErr 0 p w) (hS : SlAt encE 3 w a b off s.es) :
    Calls Tryz.prog 37 #[.agg #[.int .i64 s.st, .int .i64 s.lb, .int .i64 s.s0, .slice a s.es.length c]] w fun e w' =>
      ∃ v, e = .returned v ∧ FaultAt w' v ⟨#[115, 121, 115, 116, 101, 109]⟩ (.iface 275 (.pointer (some p))) ∧ Below w.heap.size w w' := by
  by_cases hh : HeadBad s.st s.lb s.s0 s.es.length
  · exact check_head s.st s.lb s.s0 a s.es.length c w hG hh
  · refine (check_body s.st s.lb s.s0 a b off c s.es w hG hh hS).mono ?_
    rintro e w' ⟨h1, h2⟩
    have : s.es.all (fun x => !offB s.st s.lb x) = false := by
      rw [Bool.eq_false_iff]; intro ha; rw [List.all_eq_true] at ha
      exact h ⟨hh, fun x hx => by simpa using ha x hx⟩
    unfold CheckPost at h1
    rw [this] at h1
    obtain ⟨v, h1, h3⟩ := h1
    exact ⟨v, h1, h3, h2⟩

end Go.Proofs.YtfakdgljilmpkaaGreatDoor

namespace Go.Proofs.YtfakdgljilmpkaaGreatDoor
open Go.RowKit Pl

def fil (label : Int) (ss : List S) : List Value := (ss.filter (fun s => s.1 == label)).map fun s => .int .i64 s.2
theorem fil_snoc (label : Int) (ss : List S) (k : Nat) (h : k < ss.length) : fil label (ss.take (k+1)) = fil label (ss.take k) ++ (if (ss.getD k (0,0)).1 == label then [.int .i64 (ss.getD k (0,0)).2] else []) := by
  rw [List.take_succ_eq_append_getElem h]
  unfold fil
  rw [List.filter_append, List.map_append]
  simp only [List.getD, List.getElem?_eq_getElem h, Option.getD_some]
  by_cases hx : (ss[k].1 == label) = true <;> simp [List.filter, hx]
theorem fil_le (label : Int) (ss : List S) (k : Nat) : (fil label (ss.take k)).length ≤ ss.length := by
  unfold fil; rw [List.length_map]; exact Nat.le_trans (List.length_filter_le _ _) (by simp; omega)

set_option maxRecDepth 100000 in
theorem with_any (a : Option Addr) (b off c : Nat) (ss : List S) (label : Int) (w : World) (hlen : ss.length ≤ 20000)
    (ha : 0 < ss.length → a = some ⟨b, off, none⟩) (hb : b < w.heap.size)
    (h0 : ∀ i, i < ss.length → w.cell? ⟨b, off + i * 2, none⟩ = some (.int .i64 (ss.getD i (0,0)).1))
    (h1 : ∀ i, i < ss.length → w.cell? ⟨b, off + i * 2 + 1, none⟩ = some (.int .i64 (ss.getD i (0,0)).2)) :
    Calls Tryz.prog 107 #[.slice a ss.length c, .int .i64 label] w fun e w' =>
      ∃ v, e = .returned v ∧ w'.ownsRow w.heap.size 3 1 v ((fil label ss).length) (fil label ss) ∧ Below w.heap.size w w' := by
  go_enter Tryz.func107, Tryz.ntmps107
  go_wp2
  go_loopw [5, 10] (fun v i wr => ∃ k : Nat, k ≤ ss.length ∧ i = .int .i64 k ∧ wr.ownsRow w.heap.size 3 1 v ((fil label (ss.take k)).length) (fil label (ss.take k)) ∧ Below w.heap.size w wr)
    (fun _ i _ => ss.length - (intOf i).toNat)
  case atStart => exact ⟨0, Nat.zero_le _, rfl, World.ownsRow_nil _ _ _ _, Below.refl _ _⟩
  case round =>
    obtain ⟨k, hk, rfl, hown, hnx⟩ := hrel
    by_cases hlt : k < ss.length
    · obtain rfl := ha (by omega)
      have hs := fil_snoc label ss k hlt
      obtain ⟨x, hx⟩ : ∃ x, x = ss.getD k (0,0) := ⟨_, rfl⟩
      have hc0 : wr.cell? ⟨b, off + k * 2, none⟩ = some (.int .i64 x.1) := by rw [hx]; exact (hnx.cell (by exact hb)).trans (h0 k hlt)
      have hc1 : wr.cell? ⟨b, off + k * 2 + 1, none⟩ = some (.int .i64 x.2) := by rw [hx]; exact (hnx.cell (by exact hb)).trans (h1 k hlt)
      have hbr : b < wr.heap.size := Nat.lt_of_lt_of_le hb hnx.size
      rw [← hx] at hs
      have hle := fil_le label ss k
      have hsz := hnx.size
      clear h0 h1 hx ha
      generalize fil label (ss.take k) = f at *
      by_cases hxl : (x.1 == label) = true
      · rw [if_pos hxl] at hs
        have HS := Lib.hid hs; clear hs
        go_wp2_with (at_builtin; refine wpList_app rfl _ _ _ rfl rowI ((hnx.alloc hsz _).alloc (by simp; omega) _) (by simp; omega) rfl ((hown.alloc _).alloc _) ⟨wr.heap.size + 1, 0, none⟩ 1 1 [.int .i64 x.2] rfl rfl (cells1 (by simp [go_sem])) (by simp [Value.oneCell']) (by omega) (by unfold maxLen; omega) ?_; intro v' w1 hown1 hb1 _)
        clear hown hnx
        go_roundw
        case rel => exact ⟨k + 1, by omega, by go_num, by rw [HS.out]; simpa using hown1, hb1⟩
        case measure => simp [intOf]; omega
      · rw [if_neg hxl] at hs
        have hxl' : (x.1 == label) = false := by simpa using hxl
        have HS := Lib.hid hs; clear hs
        clear hxl
        go_wp2
        go_roundw
        case rel => exact ⟨k + 1, by omega, by go_num, by rw [HS.out]; simpa using hown.alloc _, hnx.alloc hsz _⟩
        case measure => simp [intOf]; omega
    · clear h0 h1 ha
      go_wp2
      go_ret
      have : k = ss.length := by omega
      subst this
      exact ⟨_, rfl, by simpa using hown, hnx⟩

set_option maxRecDepth 100000 in
theorem with_nil (a : Option Addr) (c : Nat) (label : Int) (w : World) :
    Calls Tryz.prog 107 #[.slice a 0 c, .int .i64 label] w fun e w' =>
      ∃ v, e = .returned v ∧ w'.ownsRow w.heap.size 3 1 v 0 [] ∧ Below w.heap.size w w' := by
  go_enter Tryz.func107, Tryz.ntmps107
  go_wp2
  refine wp_loop_rounds 1 ?_
  rw [rounds_succ]
  go_wp2
  go_ret
  exact ⟨_, rfl, World.ownsRow_nil _ _ _ _, Below.refl _ _⟩

theorem fil_flat (label : Int) (ss : List S) : fil label ss = (((ss.filter (fun s => s.1 == label)).map fun s => s.2)).flatMap encI := by
  unfold fil
  rw [List.flatMap_map]
  induction (ss.filter (fun s => s.1 == label)) with
  | nil => rfl
  | cons x l ih => simp [ih, encI]

/-- Where steps of a label lead. -/
def withL (label : Int) (ss : List S) : List Int := (ss.filter (fun s => s.1 == label)).map fun s => s.2

theorem with_sl {a : Option Addr} {b off c : Nat} {ss : List S} {w : World} (h : SlAt encS 2 w a b off ss) (hlen : ss.length ≤ 20000) (label : Int) :
    Calls Tryz.prog 107 #[.slice a ss.length c, .int .i64 label] w fun e w' =>
      ∃ v, e = .returned v ∧ w'.ownsRow w.heap.size 3 1 v (withL label ss).length ((withL label ss).flatMap encI) ∧ Below w.heap.size w w' := by
  by_cases h0 : 0 < ss.length
  · refine (with_any a b off c ss label w hlen h.ad (h.lt h0) (fun i hi => ?_) (fun i hi => ?_)).mono ?_
    · obtain ⟨x, hx⟩ := getElem?_of_lt hi
      rw [List.getD, hx]; exact h.s0 hx
    · obtain ⟨x, hx⟩ := getElem?_of_lt hi
      rw [List.getD, hx]; exact h.s1 hx
    · rintro e w' ⟨v, rfl, ho, hB⟩
      rw [fil_flat] at ho
      refine ⟨v, rfl, ?_, hB⟩
      have hl : (withL label ss).length = ((withL label ss).flatMap encI).length := by rw [length_flatMap lenI]; omega
      unfold withL at *
      rw [hl]; exact ho
  · have hz : ss = [] := List.eq_nil_of_length_eq_zero (by omega)
    subst hz
    exact with_nil a c label w

end Go.Proofs.YtfakdgljilmpkaaGreatDoor

namespace Go.Proofs.YtfakdgljilmpkaaGreatDoor
open Go.RowKit Pl

theorem fldSys0 (x y z : Int) (v : Value) (w : World) : (Instr.field 24 (.agg #[.int .i64 x, .int .i64 y, .int .i64 z, v]) 0).run Tryz.prog w = .ok (.int .i64 x) w := by kernel_rfl
theorem fldSys1 (x y z : Int) (v : Value) (w : World) : (Instr.field 24 (.agg #[.int .i64 x, .int .i64 y, .int .i64 z, v]) 1).run Tryz.prog w = .ok (.int .i64 y) w := by kernel_rfl
theorem fldSys2 (x y z : Int) (v : Value) (w : World) : (Instr.field 24 (.agg #[.int .i64 x, .int .i64 y, .int .i64 z, v]) 2).run Tryz.prog w = .ok (.int .i64 z) w := by kernel_rfl
theorem fldSys3 (x y z : Int) (v : Value) (w : World) : (Instr.field 24 (.agg #[.int .i64 x, .int .i64 y, .int .i64 z, v]) 3).run Tryz.prog w = .ok v w := by kernel_rfl

theorem outs_len {s : Lts} (h : s.Right) (i : Int) : (s.outs i).length ≤ 10000 := by
  have := h.st0
  unfold Lts.outs; rw [List.length_map]
  have := List.length_filter_le (fun x => x.1 == i) s.es; omega
theorem ins_len {s : Lts} (h : s.Right) (i : Int) : (s.ins i).length ≤ 10000 := by
  have := h.st0
  unfold Lts.ins; rw [List.length_map]
  have := List.length_filter_le (fun x => x.2.2 == i) (nf ltB s.es)
  have := length_nf (lt := ltB) s.es; omega

set_option maxRecDepth 100000 in
theorem own_any {w : World} {gb : Nat} {s : Lts} (h : GraphAt w gb s) :
    Calls Tryz.prog 93 #[.pointer (some ⟨gb, 0, none⟩)] w fun e w' => ∃ a c b off, e = .returned (.agg #[.int .i64 s.st, .int .i64 s.lb, .int .i64 s.s0, .slice a s.es.length c]) ∧ s.es.length ≤ c ∧ SlAt encE 3 w' a b off s.es ∧ Below w.heap.size w w' := by
  obtain ⟨ve, oa, of, ia, if_, h1, ⟨a, c, b, off, rfl, hcc, h3⟩, _, _⟩ := h.blk
  have c0 : w.cell? ⟨gb, 0, none⟩ = some (.int .i64 s.st) := by simp [World.cell?, h1]
  have c1 : w.cell? ⟨gb, 1, none⟩ = some (.int .i64 s.lb) := by simp [World.cell?, h1]
  have c2 : w.cell? ⟨gb, 2, none⟩ = some (.int .i64 s.s0) := by simp [World.cell?, h1]
  have c3 : w.cell? ⟨gb, 3, none⟩ = some (.slice a s.es.length c) := by simp [World.cell?, h1]
  have hgb := h.lt
  have H3 := Lib.hid h3
  clear h h1 h3
  go_enter Tryz.func93, Tryz.ntmps93
  go_wp2
  have hB : Below w.heap.size w _ := (Below.refl w.heap.size w).alloc (Nat.le_refl _) (Obj.cells #[.int .i64 s.st, .int .i64 s.lb, .int .i64 s.s0, .slice a s.es.length c] 24)
  exact bodyPost_ret (v := .agg #[.int .i64 s.st, .int .i64 s.lb, .int .i64 s.s0, .slice a s.es.length c]) (by simp [results, Tryz.results93, go_sem]) rfl ⟨a, c, b, off, rfl, hcc, H3.out.below hB (Nat.le_refl _), hB⟩

set_option maxRecDepth 100000 in
theorem getStates_any {w : World} {gb : Nat} {s : Lts} (h : GraphAt w gb s) :
    Calls Tryz.prog 48 #[.pointer (some ⟨gb, 0, none⟩)] w fun e w' => e = .returned (.int .i64 s.st) ∧ Below w.heap.size w w' := by
  have HO := Lib.hid (own_any h); clear h
  have hfl := fldSys0
  have hfl := fldSys0
  have hfl := fldSys0
  go_enter Tryz.func48, Tryz.ntmps48
  go_wp2_with (go_at_call 93; refine (HO.out).mono ?_; rintro e w1 ⟨a, c, b, off, rfl, hcc, hS, hB⟩; have HS := Lib.hid hS; clear hS)
  go_ret
  exact ⟨rfl, hB⟩

set_option maxRecDepth 100000 in
theorem getLabels_any {w : World} {gb : Nat} {s : Lts} (h : GraphAt w gb s) :
    Calls Tryz.prog 128 #[.pointer (some ⟨gb, 0, none⟩)] w fun e w' => e = .returned (.int .i64 s.lb) ∧ Below w.heap.size w w' := by
  have HO := Lib.hid (own_any h); clear h
  have hfl := fldSys1
  have hfl := fldSys1
  have hfl := fldSys1
  go_enter Tryz.func128, Tryz.ntmps128
  go_wp2_with (go_at_call 93; refine (HO.out).mono ?_; rintro e w1 ⟨a, c, b, off, rfl, hcc, hS, hB⟩; have HS := Lib.hid hS; clear hS)
  go_ret
  exact ⟨rfl, hB⟩

set_option maxRecDepth 100000 in
theorem getStart_any {w : World} {gb : Nat} {s : Lts} (h : GraphAt w gb s) :
    Calls Tryz.prog 174 #[.pointer (some ⟨gb, 0, none⟩)] w fun e w' => e = .returned (.int .i64 s.s0) ∧ Below w.heap.size w w' := by
  have HO := Lib.hid (own_any h); clear h
  have hfl := fldSys2
  have hfl := fldSys2
  have hfl := fldSys2
  go_enter Tryz.func174, Tryz.ntmps174
  go_wp2_with (go_at_call 93; refine (HO.out).mono ?_; rintro e w1 ⟨a, c, b, off, rfl, hcc, hS, hB⟩; have HS := Lib.hid hS; clear hS)
  go_ret
  exact ⟨rfl, hB⟩

set_option maxRecDepth 100000 in
theorem getOut_any {w : World} {gb : Nat} {s : Lts} (h : GraphAt w gb s) (i : Int) :
    Calls Tryz.prog 64 #[.pointer (some ⟨gb, 0, none⟩), .int .i64 i] w fun e w' => ∃ v, e = .returned v ∧ w'.ownsRow w.heap.size 101 2 v (s.outs i).length ((s.outs i).flatMap encS) ∧ Below w.heap.size w w' := by
  have hl : (s.outs i).length ≤ 1000000 := by have := outs_len h.right i; omega
  have HO := Lib.hid (each_any h (Below.refl _ w) i); clear h
  go_enter Tryz.func64, Tryz.ntmps64
  go_wp2_with (go_at_call 106; refine (HO.out).mono ?_; rintro e w1 ⟨⟨a, c, b, off, rfl, hc1, hc2, hS⟩, hB⟩; have HS := Lib.hid hS; clear hS)
  have hsz := hB.size
  refine (cloneS_any (HS.out.below hB (Nat.le_refl _)) hl).mono ?_
  rintro e w2 ⟨v, rfl, hown, hB2⟩
  have HW := Lib.hid hown; clear hown
  go_wp2
  go_ret
  exact ⟨v, rfl, own_mono HW.out hsz, hB.trans (hB2.mono hsz)⟩


set_option maxRecDepth 100000 in
theorem getBy_any {w : World} {gb : Nat} {s : Lts} (h : GraphAt w gb s) (i label : Int) :
    Calls Tryz.prog 65 #[.pointer (some ⟨gb, 0, none⟩), .int .i64 i, .int .i64 label] w fun e w' => ∃ v, e = .returned v ∧ w'.ownsRow w.heap.size 3 1 v (withL label (s.outs i)).length ((withL label (s.outs i)).flatMap encI) ∧ Below w.heap.size w w' := by
  have hl : (s.outs i).length ≤ 20000 := by have := outs_len h.right i; omega
  have HO := Lib.hid (each_any h (Below.refl _ w) i); clear h
  go_enter Tryz.func65, Tryz.ntmps65
  go_wp2_with (go_at_call 106; refine (HO.out).mono ?_; rintro e w1 ⟨⟨a, c, b, off, rfl, hc1, hc2, hS⟩, hB⟩; have HS := Lib.hid hS; clear hS)
  have hsz := hB.size
  refine (with_sl (HS.out.below hB (Nat.le_refl _)) hl label).mono ?_
  rintro e w2 ⟨v, rfl, hown, hB2⟩
  have HW := Lib.hid hown; clear hown
  go_wp2
  go_ret
  exact ⟨v, rfl, own_mono HW.out hsz, hB.trans (hB2.mono hsz)⟩

set_option maxRecDepth 100000 in
theorem getFrom_any {w : World} {gb : Nat} {s : Lts} (h : GraphAt w gb s) (i label : Int) :
    Calls Tryz.prog 165 #[.pointer (some ⟨gb, 0, none⟩), .int .i64 i, .int .i64 label] w fun e w' => ∃ v, e = .returned v ∧ w'.ownsRow w.heap.size 3 1 v (withL label (s.ins i)).length ((withL label (s.ins i)).flatMap encI) ∧ Below w.heap.size w w' := by
  have hl : (s.ins i).length ≤ 20000 := by have := ins_len h.right i; omega
  have HO := Lib.hid (back_any h (Below.refl _ w) i); clear h
  go_enter Tryz.func165, Tryz.ntmps165
  go_wp2_with (go_at_call 134; refine (HO.out).mono ?_; rintro e w1 ⟨⟨a, c, b, off, rfl, hc1, hc2, hS⟩, hB⟩; have HS := Lib.hid hS; clear hS)
  have hsz := hB.size
  refine (with_sl (HS.out.below hB (Nat.le_refl _)) hl label).mono ?_
  rintro e w2 ⟨v, rfl, hown, hB2⟩
  have HW := Lib.hid hown; clear hown
  go_wp2
  go_ret
  exact ⟨v, rfl, own_mono HW.out hsz, hB.trans (hB2.mono hsz)⟩


end Go.Proofs.YtfakdgljilmpkaaGreatDoor
