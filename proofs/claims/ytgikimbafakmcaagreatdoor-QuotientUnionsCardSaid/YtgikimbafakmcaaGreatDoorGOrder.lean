/-
  Lemmas.
-/
import Derived.Test.YtgikimbafakmcaaGreatDoorGPl6
import Derived.Sort.Grow
import Derived.Deep.QuietTactic
import Derived.BigQuiet
import Derived.Deep.RegionHeld3
import Derived.Deep.RegionWith
import Derived.Test.YtgikimbafakmcaaGreatDoorShelf
import Derived.Test.YtgikimbafakmcaaGreatDoorGParD
import Derived.Test.YtgikimbafakmcaaGreatDoorGPl1
import Derived.Sort.OwnSortedInts
import Derived.Lib.OwnBridge
import Derived.Test.YtgikimbafakmcaaGreatDoorGParA
import Derived.Test.YtgikimbafakmcaaGreatDoorGFault
import Derived.Test.YtgikimbafakmcaaGreatDoorGLaidQun
set_option maxHeartbeats 1000000
set_option maxRecDepth 100000
namespace Go.Proofs.YtgikimbafakmcaaGreatDoor
open Go.RowKit Pl
def cmpI (x y : Int) : Int := if x < y then -1 else if y < x then 1 else 0
theorem compare_any (x y : Int) (w : World) : Calls Tryz.prog 145 #[.int .i64 x, .int .i64 y] w fun e w' => e = .returned (.int .i64 (cmpI x y)) /\ w = w' := by
 unfold cmpI
 go_enter Tryz.func145, Tryz.ntmps145
 go_wp2
 all_goals (go_ret; exact ⟨by simp [*], rfl⟩)
def orL : List Int -> Int
  | [] => 0
  | x :: l => if x = 0 then orL l else x
theorem orL_drop {xs : List Int} {k : Nat} (h : ∀ j, j < k -> xs[j]? = some 0) : orL xs = orL (xs.drop k) := by
 induction k generalizing xs with
 | zero => simp
 | succ k ih =>
   match xs, h with
   | [], _ => simp [orL]
   | x :: xs, h =>
     have h0 : x = 0 := by simpa using h 0 (by omega)
     rw [orL, if_pos h0, List.drop_succ_cons]
     exact ih fun j hj => by simpa using h (j + 1) (by omega)
theorem orL_at {xs : List Int} {k : Nat} {x : Int} (h : ∀ j, j < k -> xs[j]? = some 0) (hx : xs[k]? = some x) (h0 : x ≠ 0) : orL xs = x := by
 rw [orL_drop h, List.drop_eq_getElem?_toList_append, hx]
 simp [orL, h0]
theorem orL_none {xs : List Int} (h : ∀ j, j < xs.length -> xs[j]? = some 0) : orL xs = 0 := by
 rw [orL_drop h]; simp [orL]
theorem or_any {a : Option Addr} {b off c : Nat} {xs : List Int} {w : World} (h : SlAt encI 1 w a b off xs) (hl : xs.length <= 4611686018427387904) :
   Calls Tryz.prog 144 #[.slice a xs.length c] w fun e w' => e = .returned (.int .i64 (orL xs)) /\ w = w' := by
  go_enter Tryz.func144, Tryz.ntmps144
  go_wp2
  go_loop [5, 8] (fun _ i => ∃ k : Nat, k <= xs.length /\ i = .int .i64 k /\ (∀ j, j < k -> xs[j]? = some 0)) (fun _ i => xs.length - (intOf i).toNat)
  case atStart => exact ⟨0, Nat.zero_le _, rfl, by intro j hj; omega⟩
  case round =>
    obtain ⟨k, hk, rfl, hz⟩ := hrel
    have HZ := Lib.hid hz; clear hz
    by_cases hlt : k < xs.length
    · obtain ⟨x, hx⟩ := getElem?_of_lt hlt
      obtain rfl := h.ad (by omega)
      have hc := h.ci hx
      have HX := Lib.hid hx; clear h hx
      by_cases h0 : x = 0
      · subst h0
        go_wp2
        go_round
        case rel => exact ⟨k + 1, by omega, by go_num, by
            intro j hj
            by_cases hjk : j = k
            · subst hjk; exact HX.out
            · exact HZ.out j (by omega)⟩
        case measure => simp [intOf]; omega
      · have hb : (x != 0) = true := by simp [h0]
        have H0 := Lib.hid h0; clear h0
        go_wp2
        go_ret
        exact ⟨ret_i (orL_at HZ.out HX.out H0.out).symm, rfl⟩
    · clear h
      go_wp2
      go_ret
      obtain rfl : k = xs.length := by omega
      exact ⟨ret_i (orL_none HZ.out).symm, rfl⟩
def cmpE (a b : E) : Int := orL [cmpI a.1 b.1, cmpI a.2.1 b.2.1, cmpI a.2.2 b.2.2]
theorem slAt_lit3 {w : World} {n : Nat} {x y z : Int} (h0 : w.cell? ⟨n, 0, none⟩ = some (.int .i64 x)) (h1 : w.cell? ⟨n, 1, none⟩ = some (.int .i64 y)) (h2 : w.cell? ⟨n, 2, none⟩ = some (.int .i64 z)) :
    SlAt encI 1 w (some ⟨n, 0, none⟩) n 0 [x, y, z] where
  ad _ := rfl
  lt _ := World.block_lt_of_cell? _ _ h0
  cell := by
    intro i v hv j u hu
    match j, hu with
    | 0, hu =>
      simp [encI] at hu; subst hu
      match i, hv with
      | 0, hv => simp at hv; subst hv; exact h0
      | 1, hv => simp at hv; subst hv; exact h1
      | 2, hv => simp at hv; subst hv; exact h2
theorem order_any (x y : E) (w : World) : Calls Tryz.prog 152 #[.agg #[.int .i64 x.1, .int .i64 x.2.1, .int .i64 x.2.2], .agg #[.int .i64 y.1, .int .i64 y.2.1, .int .i64 y.2.2]] w fun e w' => e = .returned (.int .i64 (cmpE x y)) /\ ∃ q os', w' = Go.Sort.grow (w.drewN q) os' := by
 unfold cmpE
 go_enter Tryz.func152, Tryz.ntmps152
 go_wp2
 go_region_held3 (fun w' => w'.cell? ⟨w.heap.size, 0, none⟩ = some (.int .i64 x.1) /\ w'.cell? ⟨w.heap.size, 1, none⟩ = some (.int .i64 x.2.1) /\ w'.cell? ⟨w.heap.size, 2, none⟩ = some (.int .i64 x.2.2) /\ w'.cell? ⟨w.heap.size + 1, 0, none⟩ = some (.int .i64 y.1) /\ w'.cell? ⟨w.heap.size + 1, 1, none⟩ = some (.int .i64 y.2.1) /\ w'.cell? ⟨w.heap.size + 1, 2, none⟩ = some (.int .i64 y.2.2)) (simp [go_sem, World.cell?_alloc_past])
   (first
     | (go_at_call 145; refine (compare_any _ _ _).mono ?_; rintro e w' ⟨rfl, rfl⟩)
     | (go_at_call 144; refine (or_any (slAt_lit3 (x := cmpI x.1 y.1) (y := cmpI x.2.1 y.2.1) (z := cmpI x.2.2 y.2.2) (by simp [go_sem]) (by simp [go_sem]) (by simp [go_sem])) (by simp)).mono ?_; rintro e w' ⟨rfl, rfl⟩))
 go_wp2
 go_ret
 exact ⟨rfl, 1, _, by rw [Go.Sort.alloc_eq_grow, Go.Sort.alloc_eq_grow, Go.Sort.alloc_eq_grow, Go.Sort.grow_grow, Go.Sort.grow_grow]; rfl⟩
end Go.Proofs.YtgikimbafakmcaaGreatDoor
namespace Go.Proofs.YtgikimbafakmcaaGreatDoor
open Go.RowKit Pl Go.Sort Go.Shelf Go.Lib
section
variable {α : Type} [Inhabited α] {enc : α -> List Value} {k : Nat} {w : World} {base g n cap : Nat} {e : TypeId}
theorem flatK_toList (hk : ∀ x, (enc x).length = k) (hk0 : 0 < k) (d : Array α) : (flatK enc k d).toList = d.toList.flatMap enc := by
 apply List.ext_getElem?
 intro t
 by_cases ht : t < d.size * k
 · (
 have hi : t / k < d.size := by rw [Nat.div_lt_iff_lt_mul hk0]; exact ht
 have hm : t % k < k := Nat.mod_lt _ hk0
 have hx : d.toList[t / k]? = some d[t / k]! := by
   rw [Array.getElem?_toList, Array.getElem?_eq_getElem hi, getElem!_pos d (t / k) hi]
 have h1 := getElem?_flatMap hk d.toList (t / k) _ hx (t % k) _ (List.getElem?_eq_getElem (by rw [hk]; exact hm))
 rw [show t / k * k + t % k = t from Nat.div_add_mod' t k] at h1
 rw [h1, Array.getElem?_toList]
 have h2 := get_flatK enc k d t ht
 rw [getElem!_pos _ _ (by simpa using ht)] at h2
 rw [Array.getElem?_eq_getElem (by simpa using ht), h2, getElem!_pos _ _ (by rw [hk]; exact hm)])
 · rw [List.getElem?_eq_none (by simp; omega), List.getElem?_eq_none (by rw [length_flatMap hk]; simp; omega)]
theorem holdsK_own (hk : ∀ x, (enc x).length = k) (hk0 : 0 < k) {xs : List α} (h : w.ownsRow base e k (.slice (some ⟨g, 0, none⟩) n cap) xs.length (xs.flatMap enc)) : HoldsK enc k w g 0 xs.toArray := by
 have hS := slAt_row hk h
 intro j hj
 rw [size_flatK] at hj
 refine ⟨?_, row_frozen h _⟩
 have hf := slAt_flat hk hS j
 have hj2 : j < (xs.flatMap enc).length := by rw [length_flatMap hk]; simpa using hj
 have := hf _ (List.getElem?_eq_getElem hj2)
 have hadd : (⟨g, 0, none⟩ : Addr).add j = ⟨g, 0 + j, none⟩ := by unfold Addr.add; split <;> simp_all
 rw [hadd] at this
 rw [this]
 have h2 := flatK_toList hk hk0 xs.toArray
 have h3 : (flatK enc k xs.toArray).toList[j]? = some (xs.flatMap enc)[j] := by rw [h2]; exact List.getElem?_eq_getElem hj2
 rw [Array.getElem?_toList] at h3
 rw [getElem!_pos _ _ (by simpa using hj)]
 rw [Array.getElem?_eq_getElem (by simpa using hj)] at h3
 exact h3.symm
theorem ownsRow_sortedK (hk : ∀ x, (enc x).length = k) (hk0 : 0 < k) {L : List Value} {m : Nat} {os : Array Obj} {d : Array α} (h : w.ownsRow base e k (.slice (some ⟨g, 0, none⟩) n cap) n L) (hd : d.size = n) :
    (sortWorldK enc k w g 0 m d os).ownsRow base e k (.slice (some ⟨g, 0, none⟩) n cap) n (d.toList.flatMap enc) := by
 subst hd
 rcases h.2 with ⟨h', _⟩ | ⟨g', cap', cur, h', hb, hg, hnc, hcm, hcs, htake⟩
 · simp at h'
 · (
 simp only [Value.slice.injEq, Option.some.injEq, Addr.mk.injEq, and_true, true_and] at h'
 obtain ⟨rfl, rfl⟩ := h'
 have hlt : g < w.heap.size := (Array.getElem?_eq_some_iff.1 hg).1
 refine ⟨by rw [length_flatMap hk]; simp, .inr ⟨g, cap, putCells id 0 (flatK enc k d) cur, rfl, hb, ?_, hnc, hcm, by simp [putCells, hcs], ?_⟩⟩
 · show (grow (putRowK enc k (Sort.ahead w m) g 0 d) os).heap[g]? = _
   unfold grow putRowK putRow mapBlock Sort.ahead
   simp only
   rw [Array.getElem?_append_left (by simpa using hlt), Array.getElem?_modify, if_pos rfl, hg]
   rfl
 · (
 rw [<- flatK_toList hk hk0]
 have hc : d.size * k <= cur.size := by rw [hcs]; exact Nat.mul_le_mul_right _ hnc
 apply List.ext_getElem?
 intro t
 rw [List.getElem?_take]
 by_cases ht : t < d.size * k
 · rw [if_pos ht, Array.getElem?_toList, Array.getElem?_toList]
   unfold putCells
   rw [Array.getElem?_mapIdx, Array.getElem?_eq_getElem (show t < cur.size by omega), Array.getElem?_eq_getElem (show t < (flatK enc k d).size by simpa using ht)]
   simp only [Option.map_some, Nat.zero_le, Nat.zero_add, size_flatK, true_and, ht, if_true, Nat.sub_zero, id]
   rw [getElem!_pos _ _ (by simpa using ht)]
 · rw [if_neg ht, List.getElem?_eq_none (by simp; omega)]))
theorem below_sortK {w0 : World} {B m : Nat} {os : Array Obj} {d : Array α} (h : Below B w0 w) (hb : B <= g) (hg : g < w.heap.size) : Below B w0 (sortWorldK enc k w g 0 m d os) :=
  h.trans ⟨rfl, rfl, rfl, by simp [sortWorldK, grow, putRowK, putRow, mapBlock, Sort.ahead], fun i hi => by
    show (grow (putRowK enc k (Sort.ahead w m) g 0 d) os).heap[i]? = _
    unfold grow putRowK putRow mapBlock Sort.ahead
    simp only
    rw [Array.getElem?_append_left (by simp; omega), Array.getElem?_modify, if_neg (by omega)]⟩
end
theorem ltOf_cmpE (x y : E) : ltOf cmpE x y = ltE x y := by
 rw [Bool.eq_iff_iff, ltE_iff]
 unfold ltOf cmpE orL orL orL orL cmpI
 simp only [decide_eq_true_eq]
 repeat' split
 all_goals omega
theorem swoE : SWO (ltOf cmpE) where
  irrefl x := by rw [ltOf_cmpE]; exact stoE.irrefl x
  trans x y z := by rw [ltOf_cmpE, ltOf_cmpE, ltOf_cmpE]; exact stoE.trans x y z
  ntrans x y z := by
    rw [ltOf_cmpE, ltOf_cmpE, ltOf_cmpE]
    simp only [Bool.eq_false_iff, ne_eq, ltE_iff]
    omega
theorem sortFuncE (cf : E -> E -> Int) (hO : SWO (ltOf cf)) (f : Nat) (eg : ∀ args w, (callFunc f args).run Tryz.prog w = .ok (.enter f args) w)
    (hcmp : ∀ (x y : E) (W : World), Calls Tryz.prog f #[.agg #[.int .i64 x.1, .int .i64 x.2.1, .int .i64 x.2.2], .agg #[.int .i64 y.1, .int .i64 y.2.1, .int .i64 y.2.2]] W fun e w' => e = .returned (.int .i64 (cf x y)) /\ ∃ q os', w' = Go.Sort.grow (W.drewN q) os')
    {base g n cap : Nat} {xs : List E} {w : World} (h : w.ownsRow base 57 3 (.slice (some ⟨g, 0, none⟩) n cap) xs.length (xs.flatMap encE)) (hn : n = xs.length) (hl : xs.length <= 1000000) :
    Calls Tryz.prog 142 #[.slice (some ⟨g, 0, none⟩) n cap, .func (.func f) #[] #[]] w fun e w' => e = .returned (.tuple #[]) /\
      ∃ ys : List E, ys.Perm xs /\ ys.Pairwise (fun a b => ltOf cf b a = false) /\ w'.ownsRow base 57 3 (.slice (some ⟨g, 0, none⟩) n cap) n (ys.flatMap encE) /\ (∀ {w0 : World}, Below base w0 w -> Below base w0 w') := by
 subst hn
 have hlt := h.lt g rfl
 have hcon := AnyQ.slices_SortFunc Tryz.sortE 3 Tryz.isAgg57 Tryz.sizeOf57 encE lenE (fun x v hv => by simp [encE] at hv; rcases hv with rfl | rfl | rfl <;> rfl) cf hO f #[] g 0 cap xs.toArray w eg
   (fun m os dk _ x y => hcmp x y _) (holdsK_own lenE (by decide) h) hlt.2 (by simpa using by omega)
 change Calls Tryz.prog 142 _ _ _ at hcon
 refine hcon.mono ?_
 rintro e w' ⟨rfl, d', m, os, hp, hs, rfl⟩
 have hsz : d'.size = xs.length := by simpa using hp.1
 refine ⟨rfl, d'.toList, ?_, ?_, ?_, fun hB => below_sortK hB hlt.1 hlt.2⟩
 · have := hp.2.2
   simp only [Array.toList_extract, List.size_toArray, List.extract_eq_take_drop, Nat.sub_zero, List.drop_zero] at this
   rw [List.take_of_length_le (by simp [hsz]), List.take_of_length_le (Nat.le_refl _)] at this
   exact this
 · rw [List.pairwise_iff_getElem]
   intro i j hi hj hij
   have := hs i j (Nat.zero_le _) hij (by simpa [<- hsz] using hj)
   rw [getElem!_pos _ _ (by simpa using hj), getElem!_pos _ _ (by simpa using hi)] at this
   simpa using this
 · have := ownsRow_sortedK (m := m) (os := os) (d := d') lenE (by decide) h hsz
   simpa using this
theorem sortFuncE_v (cf : E -> E -> Int) (hO : SWO (ltOf cf)) (f : Nat) (eg : ∀ args w, (callFunc f args).run Tryz.prog w = .ok (.enter f args) w)
    (hcmp : ∀ (x y : E) (W : World), Calls Tryz.prog f #[.agg #[.int .i64 x.1, .int .i64 x.2.1, .int .i64 x.2.2], .agg #[.int .i64 y.1, .int .i64 y.2.1, .int .i64 y.2.2]] W fun e w' => e = .returned (.int .i64 (cf x y)) /\ ∃ q os', w' = Go.Sort.grow (W.drewN q) os')
    {base : Nat} {v : Value} {xs : List E} {w : World} (h : w.ownsRow base 57 3 v xs.length (xs.flatMap encE)) (hl : xs.length <= 1000000) :
    Calls Tryz.prog 142 #[v, .func (.func f) #[] #[]] w fun e w' => e = .returned (.tuple #[]) /\
      ∃ ys : List E, ys.Perm xs /\ ys.Pairwise (fun a b => ltOf cf b a = false) /\ w'.ownsRow base 57 3 v ys.length (ys.flatMap encE) /\ (∀ {w0 : World}, Below base w0 w -> Below base w0 w') := by
 rcases h.2 with ⟨rfl, hn⟩ | ⟨g, cap, cur, rfl, r⟩
 · (
 have hx : xs = [] := List.eq_nil_of_length_eq_zero hn
 subst hx
 have hcon := AnyF.slices_SortFunc_none Tryz.sortE none 0 (.func (.func f) #[] #[]) w
 change Calls Tryz.prog 142 _ _ _ at hcon
 refine hcon.mono ?_
 rintro e w' ⟨rfl, rfl⟩
 exact ⟨rfl, [], List.Perm.refl _, List.Pairwise.nil, h, fun hB => hB⟩)
 · refine (sortFuncE cf hO f eg hcmp h rfl hl).mono ?_
   rintro e w' ⟨rfl, ys, hp, hs, ho, hB⟩
   exact ⟨rfl, ys, hp, hs, by rw [hp.length_eq]; exact ho, hB⟩
theorem compactE_nil (w : World) : Calls Tryz.prog 153 #[.slice none 0 0] w fun e w' => e = .returned (.slice none 0 0) /\ w = w' := by
 go_enter Tryz.func153, Tryz.ntmps153
 go_wp2
 go_ret
 exact ⟨rfl, rfl⟩
theorem compactE_v {base : Nat} {v : Value} {xs : List E} {w : World} (h : w.ownsRow base 57 3 v xs.length (xs.flatMap encE)) (hl : xs.length <= 1000000) :
    Calls Tryz.prog 153 #[v] w fun e w' => ∃ v', e = .returned v' /\ w'.ownsRow base 57 3 v' (cmpt xs).length ((cmpt xs).flatMap encE) /\ (∀ {w0 : World}, Below base w0 w -> Below base w0 w') := by
 rcases h.2 with ⟨rfl, hn⟩ | ⟨g, cap, cur, rfl, hbg, hg, hnc, r⟩
 · have hx : xs = [] := List.eq_nil_of_length_eq_zero hn
   subst hx
   refine (compactE_nil w).mono ?_
   rintro e w' ⟨rfl, rfl⟩
   exact ⟨_, rfl, h, fun hB => hB⟩
 · refine (compactE_any h rfl hl hbg hnc).mono ?_
   rintro e w' ⟨m, rfl, ho, rfl, hB⟩
   exact ⟨_, rfl, ho, fun hB0 => hB0.trans hB⟩
theorem sorted_any {a : Option Addr} {b off c : Nat} {xs : List E} {w : World} (h : SlAt encE 3 w a b off xs) (hl : xs.length <= 1000000) :
    Calls Tryz.prog 120 #[.slice a xs.length c] w fun e w' => ∃ v, e = .returned v /\ w'.ownsRow w.heap.size 57 3 v (nf ltE xs).length ((nf ltE xs).flatMap encE) /\ Below w.heap.size w w' := by
 have eg : ∀ args w, (callFunc 152 args).run Tryz.prog w = .ok (.enter 152 args) w := enters_of Tryz.func152 (by kernel_rfl) rfl
 have HE := Lib.hid eg; clear eg
 have hcl := cloneE_any (c := c) h hl
 have HC := Lib.hid hcl
 clear h hcl
 go_enter Tryz.func120, Tryz.ntmps120
 go_wp2_with (go_at_call 22; refine (HC.out).mono ?_; rintro e w1 ⟨v, rfl, hown, hB⟩; have HO := Lib.hid hown; clear hown)
 refine (sortFuncE_v cmpE swoE 152 HE.out (fun x y W => order_any x y W) HO.out hl).mono ?_
 rintro e w2 ⟨rfl, ys, hp, hs, hown, hB2⟩
 have hl2 : ys.length <= 1000000 := by rw [hp.length_eq]; exact hl
 have hfin : cmpt ys = nf ltE xs := by
   refine cmpt_eq_nf stoE ?_ (fun x => hp.mem_iff)
   exact hs.imp (fun {a b} h => by rw [ltOf_cmpE] at h; exact h)
 have HF := Lib.hid hfin
 have HO2 := Lib.hid hown
 have hB3 := hB2 hB
 clear hp hs hfin hown hB2 hB
 go_wp2_with (go_at_call 153; refine (compactE_v HO2.out hl2).mono ?_; rintro e w3 ⟨v3, rfl, hown3, hB4⟩)
 go_ret
 exact ⟨_, rfl, by rw [<- HF.out]; exact hown3, hB4 hB3⟩
end Go.Proofs.YtgikimbafakmcaaGreatDoor
namespace Go.Proofs.YtgikimbafakmcaaGreatDoor
open Go.RowKit Pl Go.Sort Go.Shelf Go.Lib
theorem flat_encI (L : List Int) : L.flatMap encI = L.map (Value.int .i64) := by
 induction L with
 | nil => rfl
 | cons x l ih => rw [List.flatMap_cons, ih]; rfl
theorem below_putRowI {w0 w : World} {B g m : Nat} {os : Array Obj} {d : Array Int} (h : RowKit.Below B w0 w) (hb : B <= g) (hg : g < w.heap.size) : RowKit.Below B w0 (grow (putRow (Value.int .i64) (Sort.ahead w m) g 0 d) os) :=
  h.trans ⟨rfl, rfl, rfl, by simp [grow, putRow, mapBlock, Sort.ahead], fun i hi => by
    unfold grow putRow mapBlock Sort.ahead
    simp only
    rw [Array.getElem?_append_left (by simp; omega), Array.getElem?_modify, if_neg (by omega)]⟩
theorem sortI_v {base : Nat} {v : Value} {L : List Int} {w : World} (h : w.ownsRow base 3 1 v L.length (L.flatMap encI)) (hl : L.length <= 1000000) :
    Calls Tryz.prog 150 #[v] w fun e w' => e = .returned (.tuple #[]) /\
      w'.ownsRow base 3 1 v (L.mergeSort fun x y => decide (x <= y)).length ((L.mergeSort fun x y => decide (x <= y)).flatMap encI) /\ (∀ {w0 : World}, RowKit.Below base w0 w -> RowKit.Below base w0 w') := by
 have hlen : (L.mergeSort fun x y => decide (x <= y)).length = L.length := (List.mergeSort_perm L _).length_eq
 rw [flat_encI] at h
 rw [flat_encI, hlen]
 rcases h.2 with ⟨rfl, hn⟩ | ⟨g, cap, cur, rfl, hbg, hg, hnc, hcm, hcs, htake⟩
 · (
 have hx : L = [] := List.eq_nil_of_length_eq_zero hn
 subst hx
 have hcon := Any.slices_Sort_int_none Tryz.sortI none 0 w
 change Calls Tryz.prog 150 _ _ _ at hcon
 refine hcon.mono ?_
 rintro e w' ⟨rfl, rfl⟩
 exact ⟨rfl, by simpa using h, fun hB => hB⟩)
 · (
 obtain ⟨g', cap', hv, _, hlt, _, _, _, hH⟩ := holds_of_ownsRow (enc := Value.int .i64) h (by simp)
 simp only [Value.slice.injEq, Option.some.injEq, Addr.mk.injEq, and_true, true_and] at hv
 obtain ⟨rfl, rfl⟩ := hv
 have hcon := Any.slices_Sort_int Tryz.sortI g 0 cap L w hH hlt (by omega)
 change Calls Tryz.prog 150 _ _ _ at hcon
 refine hcon.mono ?_
 rintro e w' ⟨rfl, m, os, rfl⟩
 exact ⟨rfl, ownsRow_sortedI hlen hbg hg hnc hcm hcs, fun hB => below_putRowI hB hbg hlt⟩)
end Go.Proofs.YtgikimbafakmcaaGreatDoor
namespace Go.Proofs.YtgikimbafakmcaaGreatDoor
open Go.RowKit Pl
open Lib (hid)
theorem cloneI_any {a : Option Addr} {b off c : Nat} {xs : List Int} {w : World} (h : SlAt encI 1 w a b off xs) (hl : xs.length <= 1000000) :
    Calls Tryz.prog 164 #[.slice a xs.length c] w fun e w' => ∃ v, e = .returned v /\ w'.ownsRow w.heap.size 3 1 v xs.length (xs.flatMap encI) /\ Below w.heap.size w w' := by
 cases a with
 | none =>
   have hx : xs = [] := by
     cases xs with
     | nil => rfl
     | cons x l => have := h.ad (by simp); cases this
   subst hx
   have heq := fun (w : World) => Lib.run_eql_slice_nil (P := Tryz.prog) w 58 3 none 0 c 0 0 Tryz.underlying58
   clear h
   go_enter Tryz.func164, Tryz.ntmps164
   go_wp2
   go_ret
   exact ⟨_, rfl, World.ownsRow_nil _ _ _ _, Below.refl _ _⟩
 | some ad =>
   have heq := fun (w : World) => Lib.run_eql_slice_nil (P := Tryz.prog) w 58 3 (some ad) xs.length c 0 0 Tryz.underlying58
   have hnews : ∀ j u, (xs.flatMap encI)[j]? = some u -> w.cell? (ad.add j) = some u := by
     intro j u hu
     have hj := (List.getElem?_eq_some_iff.1 hu).1
     rw [length_flatMap lenI] at hj
     have hp : 0 < xs.length := by cases xs <;> simp at *
     have := h.ad hp
     simp at this; subst this
     exact slAt_flat lenI h j u hu
   have hlen : (xs.flatMap encI).length = xs.length * 1 := length_flatMap lenI xs
   have h1 : ∀ u ∈ xs.flatMap encI, u.oneCell' = true := by
     intro u hu
     obtain ⟨x, _, hx⟩ := List.mem_flatMap.1 hu
     simp [encI] at hx
     subst hx; rfl
   have HN := hid hnews; have HL := hid hlen; have H1 := hid h1
   clear h hnews hlen h1
   generalize xs.flatMap encI = news at *
   go_enter Tryz.func164, Tryz.ntmps164
   go_wp2_with (at_builtin; refine wpList_app rfl _ _ _ rfl rowI ((Below.refl w.heap.size w).alloc (Nat.le_refl _) _) (by simp) rfl (World.ownsRow_made w #[] 0 (Nat.le_refl _) (by decide) (by simp)) ad xs.length c news rfl HL.out (fun j u hu => cell_alloc_of (HN.out j u hu)) H1.out (by omega) (by unfold maxLen; omega) ?_; intro v' w1 hown1 hb1 _)
   go_ret
   exact ⟨_, rfl, by simpa using hown1, hb1⟩
section
variable {w0 w : World} {K : PK} {n : Nat} {el pl inn : Nat -> Nat} {bl : List B3} {rest : List Rw}
theorem elRow_len (el : Nat -> Nat) (x : B3) : (elRow el x).length = x.2.1 - x.1 := by simp [elRow]
theorem Rws.pRow (h : Rws w0 w (PR K n el pl inn bl ++ rest)) {x : B3} (hx : x.1 < x.2.1) (hn : x.2.1 <= n) : SlAt encI 1 w (some ⟨K.eb, x.1, none⟩) K.eb x.1 ((elRow el x).map Int.ofNat) :=
  ⟨fun _ => rfl, fun _ => h.pLts.2.1, fun i y hy j u hu => by
    have hi := (List.getElem?_eq_some_iff.1 hy).1
    rw [List.length_map, elRow_len] at hi
    have hj := (List.getElem?_eq_some_iff.1 hu).1
    rw [lenI] at hj
    obtain rfl : j = 0 := by omega
    have hye : y = (el (x.1 + i) : Int) := by
      unfold elRow at hy
      rw [List.map_map, List.getElem?_map, List.getElem?_range' (by omega)] at hy
      simpa using hy.symm
    simp only [encI, List.getElem?_cons_zero, Option.some.injEq] at hu
    rw [<- hu, hye, Nat.mul_one, Nat.add_zero]
    exact h.pEl (by omega)⟩
def MembersPost (w : World) (M : List Int) (e : Ending) (w' : World) : Prop :=
  ∃ v, e = .returned (.tuple #[v, .nilIface]) /\ w'.ownsRow w.heap.size 3 1 v M.length (M.flatMap encI) /\ Below w.heap.size w w'
theorem members_any (h : PW w0 w K n el pl inn bl rest) {b : Nat} (hb : b < bl.length) :
    Calls Tryz.prog 131 #[.pointer (some ⟨K.pb, 0, none⟩), .int .i64 b] w (MembersPost w ((memN n inn b).map Int.ofNat)) := by
 obtain ⟨x, hx⟩ : ∃ x, bl[b]? = some x := ⟨_, List.getElem?_eq_getElem hb⟩
 obtain ⟨b1, b2, b3⟩ := h.pi.blk b x hx
 have hn := h.n1
 have hB := hid (parBlocks_any h.rws)
 have hA := hid (asked_ok w K.pb b bl.length hb)
 have hR := hid (parRow_any h hx)
 have hM := sort_memN (n := n) (f := inn) (b := b) (L := (elRow el x).map Int.ofNat) (by
   have := h.pi.rowE_nodup hx
   unfold List.Nodup at this ⊢
   rw [List.pairwise_map]
   exact this.imp (fun {a b} hab e => hab (Int.ofNat.inj e))) (fun y => by
   simp only [List.mem_map]
   constructor
   · rintro ⟨e, he, rfl⟩; exact ⟨e, (h.pi.rowE_mem hx e).1 he, rfl⟩
   · rintro ⟨e, he, rfl⟩; exact ⟨e, (h.pi.rowE_mem hx e).2 he, rfl⟩)
 obtain ⟨L, hL⟩ : ∃ L, L = (elRow el x).map Int.ofNat := ⟨_, rfl⟩
 have hLl : L.length = x.2.1 - x.1 := by rw [hL, List.length_map, elRow_len]
 have HP : Hid (∀ W, Below w.heap.size w W -> SlAt encI 1 W (some ⟨K.eb, x.1, none⟩) K.eb x.1 L) := hid (fun W hW => by rw [hL]; exact (h.rws.call hW).pRow b1 b2)
 rw [<- hL] at hM
 have HM := hid hM; have HLL := hid hLl
 have hl1 : L.length <= 1000000 := by omega
 rw [<- hLl] at hR
 clear h hx hM hL hLl
 go_enter Tryz.func131, Tryz.ntmps131
 go_wp2_with fail
 refine hB.out.mono ?_
 rintro e w1 ⟨rfl, rfl⟩
 go_wp2_with fail
 refine hA.out.mono ?_
 rintro e w1 ⟨rfl, rfl⟩
 go_wp2_with fail
 refine hR.out.mono ?_
 rintro e w1 ⟨rfl, hB1⟩
 have HB1 := hid hB1
 have HC := hid (cloneI_any (c := L.length) (HP.out _ hB1) hl1)
 clear hB1
 go_wp2_with fail
 refine HC.out.mono ?_
 rintro e w2 ⟨v, rfl, hown, hB2⟩
 have HS := hid (sortI_v hown hl1)
 have HB2 := hid hB2
 clear hown hB2 HC HP
 go_wp2_with fail
 refine HS.out.mono ?_
 rintro e w3 ⟨rfl, hown, hk⟩
 have hB3 := HB1.out.trans ((hk HB2.out).mono HB1.out.size)
 rw [HM.out] at hown
 have HO := hid (own_mono hown HB1.out.size); have HB3 := hid hB3
 clear hown hk hB3
 go_wp2_with fail
 go_ret2
 exact ⟨v, rfl, HO.out, HB3.out⟩
end
end Go.Proofs.YtgikimbafakmcaaGreatDoor
namespace Go.Proofs.YtgikimbafakmcaaGreatDoor
open Go.RowKit Pl
open Lib (hid)
namespace Pl
theorem mkB_succ {bl : List B3} {k : Nat} {x : B3} (h : bl[k]? = some x) : mkB bl (k + 1) = mkB bl k ++ (if 0 < x.2.2 then [k] else []) := by
 unfold mkB
 rw [List.range_succ, List.filter_append]
 congr 1
 by_cases h0 : 0 < x.2.2
 · rw [if_pos h0]
   simp [h, h0]
 · rw [if_neg h0]
   have h1 : x.2.2 = 0 := by omega
   simp [h, h1]
theorem mkB_len (bl : List B3) (k : Nat) : (mkB bl k).length <= k := by
 unfold mkB
 have := List.length_filter_le (fun b => decide (∃ x, bl[b]? = some x /\ 0 < x.2.2)) (List.range k)
 simpa using this
end Pl
section
variable {w0 w : World} {K : PK} {n : Nat} {el pl inn : Nat -> Nat} {bl : List B3} {rest : List Rw}
def OwnI (w : World) (M : List Int) (e : Ending) (w' : World) : Prop :=
  ∃ v, e = .returned v /\ w'.ownsRow w.heap.size 3 1 v M.length (M.flatMap encI) /\ Below w.heap.size w w'
theorem marked_any (h : PW w0 w K n el pl inn bl rest) :
    Calls Tryz.prog 158 #[.pointer (some ⟨K.pb, 0, none⟩)] w (OwnI w ((mkB bl bl.length).map Int.ofNat)) := by
 have H := hid h
 obtain ⟨c0, c1, c2, c3⟩ := h.rws.pCells
 have l0 := h.rws.pLts.1
 have hcb := h.rws.pCaps.2.2.2
 have hfew := h.pi.few
 have hn := h.n1
 obtain ⟨m, hm⟩ : ∃ m, m = bl.length := ⟨_, rfl⟩
 rw [<- hm] at c3 hcb hfew ⊢
 have HMM := hid hm
 clear h hm c0 c1 c2
 go_enter Tryz.func158, Tryz.ntmps158
 go_wp2_with fail
 refine (parOwn_any w K.pb).mono ?_
 rintro e w1 ⟨rfl, rfl⟩
 go_wp2_with fail
 go_loopw [3, 4, 5, 12] (fun v3 _ _ v12 wr => ∃ k : Nat, v12 = .int .i64 k /\ k <= m /\ wr.ownsRow w.heap.size 3 1 v3 ((mkB bl k).map Int.ofNat).length (((mkB bl k).map Int.ofNat).flatMap encI) /\ Below w.heap.size w wr) (fun _ _ _ v12 _ => m - (intOf v12).toNat)
 case atStart => exact ⟨0, rfl, Nat.zero_le _, ⟨by simp [mkB], .inl ⟨rfl, by simp [mkB]⟩⟩, Below.refl _ _⟩
 case round => (
 obtain ⟨k, rfl, hk, hown, hB⟩ := hrel
 have HOWN := hid hown; have HB := hid hB
 have hsz := hB.size
 clear hown hB
 by_cases hlt : k < m
 · (
 obtain ⟨x, hx⟩ : ∃ x, bl[k]? = some x := ⟨_, List.getElem?_eq_getElem (by have := HMM.out; omega)⟩
 have h1 := H.out.rws.call HB.out
 obtain ⟨g0, g1, g2⟩ := h1.pBl hx
 have gl := h1.pLts.2.2.2.2
 obtain ⟨b1, b2, b3⟩ := H.out.pi.blk k x hx
 have hsucc := mkB_succ hx
 have hlen := mkB_len bl k
 obtain ⟨x1, x2, x3⟩ := x
 simp only at g0 g1 g2 b1 b2 b3 hsucc
 have hkI : (k : Int) < (m : Int) := by omega
 have hmx : ((mkB bl k).map Int.ofNat).length <= 1000 := by simp; omega
 have HSU := hid hsucc
 clear h1 hx hsucc hlen
 by_cases h0 : 0 < x3
 · (
 have hb : decide ((0 : Int) < (x3 : Int)) = true := by simp; omega
 have h3I : (0 : Int) < (x3 : Int) := by omega
 have hs' : ((mkB bl (k + 1)).map Int.ofNat) = ((mkB bl k).map Int.ofNat) ++ [(k : Int)] := by rw [HSU.out, if_pos h0, List.map_append]; rfl
 have HS := hid hs'
 clear hs'
 go_wp2_with (at_builtin; refine wpList_app1 rfl _ _ _ rfl rowI (Below.refl _ _) (by simp; omega) rfl ((HOWN.out.alloc _).alloc _) ⟨wr.heap.size + 1, 0, none⟩ 1 1 [.int .i64 (k : Int)] rfl rfl (cells1 (by simp [go_sem])) (by simp [Value.oneCell']) (by decide) (by omega) (by unfold maxLen; omega) ?_; intro g cap w7 hown7 _ hg7)
 have hb7 : Below w.heap.size w w7 := ((HB.out.alloc hsz _).alloc (by simp; omega) _).grown hg7 (by simp; omega) (fun k hk => (HOWN.out.lt k hk).1)
 have hown8 : w7.ownsRow w.heap.size 3 1 (.slice (some ⟨g, 0, none⟩) (((mkB bl k).map Int.ofNat).length + 1) cap) ((mkB bl (k + 1)).map Int.ofNat).length (((mkB bl (k + 1)).map Int.ofNat).flatMap encI) := by
   rw [HS.out, List.length_append, List.flatMap_append]; exact hown7
 have hlm : ((mkB bl k).map Int.ofNat).length = (mkB bl k).length := List.length_map ..
 rw [hlm] at hown8
 have HO8 := hid hown8; have HB7 := hid hb7
 clear hown7 hown8 hg7 hb7 hlm
 go_roundw
 case rel => exact ⟨k + 1, by go_num, by omega, HO8.out, HB7.out⟩
 case measure => simp [intOf]; omega)
 · (
 have hb : decide ((0 : Int) < (x3 : Int)) = false := by simp; omega
 have h3I : ¬ (0 : Int) < (x3 : Int) := by omega
 have hs' : (mkB bl (k + 1)) = (mkB bl k) := by rw [HSU.out, if_neg h0, List.append_nil]
 have HS := hid hs'
 clear hs'
 go_wp2_with fail
 go_roundw
 case rel => exact ⟨k + 1, by go_num, by omega, by rw [HS.out]; exact HOWN.out.alloc _, HB.out.alloc hsz _⟩
 case measure => simp [intOf]; omega))
 · obtain rfl : m = k := by omega
   go_wp2_with fail
   go_ret
   exact ⟨_, rfl, HOWN.out, HB.out⟩)
theorem flN_slAt (h : Rws w0 w (PR K n el pl inn bl ++ rest)) : SlAt encI 1 w (some ⟨K.ib, 0, none⟩) K.ib 0 (flN n inn) :=
  ⟨fun _ => rfl, fun _ => h.pLts.2.2.2.1, fun i y hy j u hu => by
    have hi := (List.getElem?_eq_some_iff.1 hy).1
    rw [flN_len] at hi
    have hj := (List.getElem?_eq_some_iff.1 hu).1
    rw [lenI] at hj
    obtain rfl : j = 0 := by omega
    rw [flN_get _ hi] at hy
    obtain rfl := Option.some.inj hy
    simp only [encI, List.getElem?_cons_zero, Option.some.injEq] at hu
    rw [<- hu, Nat.zero_add, Nat.mul_one, Nat.add_zero]
    exact h.pIn hi⟩
theorem parClasses_any (h : PW w0 w K n el pl inn bl rest) :
    Calls Tryz.prog 112 #[.pointer (some ⟨K.pb, 0, none⟩)] w (OwnI w (canon (flN n inn))) := by
 obtain ⟨c0, c1, c2, c3⟩ := h.rws.pCells
 have l0 := h.rws.pLts.1
 have hn := h.n1
 have hfew := h.pi.few
 have hC := canon_any (c := K.ci) (flN_slAt h.rws) (by rw [flN_len]; omega) (fun x hx => by (
 obtain ⟨i, hi, rfl⟩ := List.mem_map.1 (show x ∈ (List.range n).map (fun i => (inn i : Int)) from hx)
 have := h.pi.lt (e := i) (by simpa using hi)
 exact WalkArith.wf_i64 (by omega)))
 rw [flN_len] at hC
 have HC := hid hC
 have HL := hid (show (canon (flN n inn)).length = n by rw [canon_len, flN_len])
 clear h hC c0 c1 c3
 go_enter Tryz.func112, Tryz.ntmps112
 go_wp2_with fail
 refine (parOwn_any w K.pb).mono ?_
 rintro e w1 ⟨rfl, rfl⟩
 go_wp2_with fail
 refine HC.out.mono ?_
 rintro e w1 ⟨v, rfl, hown, hB⟩
 have hown2 : w1.ownsRow w.heap.size 3 1 v (canon (flN n inn)).length ((canon (flN n inn)).flatMap encI) := by rw [HL.out]; exact hown
 have HO := hid hown2; have HB := hid hB
 clear hown hown2 hB
 go_wp2_with fail
 go_ret
 exact ⟨v, rfl, HO.out, HB.out⟩
end
end Go.Proofs.YtgikimbafakmcaaGreatDoor
