/-
  strings.Builder in weak's texts: WriteByte, String; row.text.
-/
import Derived.Test.YtdhloijdefnkpaaGreatDoorGWkA
import Derived.Test.YtdhloijdefnkpaaGreatDoorShelf
import Derived.Shelf.Strings.BuilderK
import Derived.Deep.QuietTactic
import Derived.BigQuiet
namespace Go.Proofs.YtdhloijdefnkpaaGreatDoor
open Go.RowKit Pl

/-- A builder at b that holds bs; its buffer lies at lo or above. -/
structure BldAt (w : World) (b lo : Nat) (bs : List UInt8) : Prop where
  lt : b < lo
  ex : ∃ p v, (p = .pointer none ∨ p = .pointer (some ⟨b, 0, none⟩)) ∧ w.heap[b]? = some (.cells #[p, v] 114 (0, 0)) ∧ w.ownsRow lo 5 1 v bs.length (Lib.byteCells bs)

theorem bldSize : (Tryz.prog.info? 114).map (·.size) = some 2 := by kernel_rfl
theorem bldLies : liesAt Tryz.prog Tryz.prog.depth 114 (2 / Tryz.prog.cellsOf 114) 0 114 1 = true := by kernel_rfl
theorem bldExtra : Builder.Extra Tryz.prog Tryz.strS_ren where
  sizeBuilder := by kernel_rfl
  liesBuilder := by kernel_rfl
  t5 := Tryz.underlying5
  a5 := Tryz.isAgg5
  z5 := Tryz.sizeOf5
  v5 := Tryz.zeroValue5
  infoByte := by kernel_rfl
  cellsByte := by kernel_rfl
  sizeByte := by kernel_rfl
  neB5 := by decide

set_option maxRecDepth 100000 in
set_option maxHeartbeats 1000000 in
theorem copyCheck_any {w : World} {b : Nat} {p v : Value} (hp : p = .pointer none ∨ p = .pointer (some ⟨b, 0, none⟩)) (h : w.heap[b]? = some (.cells #[p, v] 114 (0, 0))) :
    Calls Tryz.prog 111 #[.pointer (some ⟨b, 0, none⟩)] w fun e w' => e = .returned (.tuple #[]) ∧ w'.heap[b]? = some (.cells #[.pointer (some ⟨b, 0, none⟩), v] 114 (0, 0)) ∧ Chg w w' b := by
  have c0 : w.cell? ⟨b, 0, none⟩ = some p := by simp [World.cell?, h]
  have f0 : w.frozen? ⟨b, 0, none⟩ = false := by simp [World.frozen?, h]
  have bl := (Array.getElem?_eq_some_iff.1 h).1
  obtain ⟨j, hj, hjs⟩ := Option.map_eq_some_iff.1 bldSize
  rcases hp with rfl | rfl
  · have HS := Lib.hid (heap_setCell_same w b 0 _ _ (.pointer (some ⟨b, 0, none⟩)) h)
    have hsh : w.shape? b = some (114, 2) := by simp [World.shape?, h]
    clear h
    go_enter Tryz.func111, Tryz.ntmps111
    go_wp2
    rw [Lib.run_to_unsafe w ⟨b, 0, none⟩ Tryz.underlying111 Tryz.underlying172 hj (by rw [hjs]; decide) hsh (Nat.zero_lt_succ 1)]
    simp only [Result.andThen]
    rw [Oper.upon_value]
    go_wp2
    rw [run_callFunc_extern Tryz.func142 (by kernel_rfl) (by kernel_rfl) (by kernel_rfl) (e := Extern.AbiNoEscape.same) (by kernel_rfl)]
    rw [Lib.run_noEscape]
    simp only [Result.andThen]
    rw [Oper.upon_value]
    go_wp2
    rw [Lib.run_from_unsafe w ⟨b, 0, none⟩ Tryz.underlying172 Tryz.underlying111 hj hsh bldLies]
    simp only [Result.andThen]
    rw [Oper.upon_value]
    go_wp2
    go_end0
    exact ⟨rfl, HS.out, (Chg.refl w b).set 0 _⟩
  · have HH := Lib.hid h
    clear h
    go_enter Tryz.func111, Tryz.ntmps111
    go_wp2
    rw [Lib.run_neq_ptr_same w _ Tryz.underlying111 hj]
    go_wp2
    go_end0
    exact ⟨rfl, HH.out, Chg.refl w b⟩

/-- What a write leaves: all but the builder and what lies at lo or above. -/
structure BldW (w w' : World) (b lo : Nat) : Prop where
  oth : ∀ g, g ≠ b → g < lo → g < w.heap.size → w'.heap[g]? = w.heap[g]?
  size : w.heap.size ≤ w'.heap.size
  bel : Below b w w'
theorem BldW.refl (w : World) (b lo : Nat) : BldW w w b lo := ⟨fun _ _ _ _ => rfl, Nat.le_refl _, Below.refl _ _⟩
theorem BldW.trans {w w' w'' : World} {b lo : Nat} (h : BldW w w' b lo) (h' : BldW w' w'' b lo) : BldW w w'' b lo :=
  ⟨fun g hg hl hs => (h'.oth g hg hl (Nat.lt_of_lt_of_le hs h.size)).trans (h.oth g hg hl hs), Nat.le_trans h.size h'.size, h.bel.trans h'.bel⟩
theorem rowU8W : IsRow Tryz.prog 112 5 1 1 (.int .u8 0) := isRow_of Tryz.underlying112 (by kernel_rfl) rfl (by decide)
theorem byteCells_snoc (bs : List UInt8) (c : UInt8) : Lib.byteCells (bs ++ [c]) = Lib.byteCells bs ++ [.int .u8 c.toNat] := by simp [Lib.byteCells]

set_option maxRecDepth 100000 in
set_option maxHeartbeats 2000000 in
theorem writeByte_any {w : World} {b lo : Nat} {bs : List UInt8} (h : BldAt w b lo bs) (hlo : lo ≤ w.heap.size) (hl : bs.length + 1 ≤ 100000000) (c : UInt8) :
    Calls Tryz.prog 68 #[.pointer (some ⟨b, 0, none⟩), .int .u8 c.toNat] w fun e w' => e = .returned .nilIface ∧ BldAt w' b lo (bs ++ [c]) ∧ BldW w w' b lo := by
  obtain ⟨p, v, hp, hb, hown⟩ := h.ex
  obtain ⟨va, vc, rfl⟩ : ∃ va vc, v = .slice va bs.length vc := by
    rcases hown.2 with ⟨h1, h2⟩ | ⟨g, cap, cur, h1, _⟩
    · exact ⟨none, 0, by rw [h1, h2]⟩
    · exact ⟨some ⟨g, 0, none⟩, cap, h1⟩
  have hblo := h.lt
  have HCC := Lib.hid (copyCheck_any hp hb)
  have HO := Lib.hid hown
  clear h hp hb hown
  go_enter Tryz.func68, Tryz.ntmps68
  go_wp2_with fail
  refine HCC.out.mono ?_
  rintro e w1 ⟨rfl, hb1, hch⟩
  have c1 : w1.cell? ⟨b, 1, none⟩ = some (.slice va bs.length vc) := by simp [World.cell?, hb1]
  have bl1 := (Array.getElem?_eq_some_iff.1 hb1).1
  have hown1 : w1.ownsRow lo 5 1 (.slice va bs.length vc) bs.length (Lib.byteCells bs) := own_blockR HO.out (fun g hg => hch.oth g (by have := (HO.out.lt g hg).1; omega) (HO.out.lt g hg).2)
  have hs1 : w1.heap.size = w.heap.size := hch.size
  have HO1 := Lib.hid hown1; have HCH := Lib.hid hch; have HB1 := Lib.hid hb1
  have hlo1 : lo ≤ w1.heap.size := by omega
  have HS1 := Lib.hid hs1
  clear hown1 hch hb1 HCC HO hs1
  go_wp2_with (at_builtin; go_must (refine wpList_app1 rfl _ _ _ rfl rowU8W (Below.refl _ _) (show lo ≤ (w1.alloc (.cells #[.int .u8 c.toNat] 5)).heap.size by simp only [World.size_alloc]; omega) (by rfl) (HO1.out.alloc _) ⟨w1.heap.size, 0, none⟩ 1 1 [.int .u8 c.toNat] rfl rfl (cells1 (by simp [go_sem])) (by simp [Value.oneCell']) (by decide) (by omega) (by unfold maxLen; omega) ?_); intro g cap w7 hown7 _ hg7; go_must (have hbo : w7.heap[b]? = some (.cells #[.pointer (some ⟨b, 0, none⟩), .slice va bs.length vc] 114 (0, 0)) := (hg7.block b (Nat.lt_of_lt_of_le bl1 (by rw [World.size_alloc]; exact Nat.le_succ _)) (fun e => Nat.lt_irrefl _ (Nat.lt_of_lt_of_le hblo (HO1.out.lt b e.symm).1))).trans ((Lib.alloc_old w1 _ b bl1).trans HB1.out)); go_must (have q1 : w7.cell? ⟨b, 1, none⟩ = some (.slice va bs.length vc) := (by simp [World.cell?, hbo]); have q2 : w7.frozen? ⟨b, 1, none⟩ = false := (by simp [World.frozen?, hbo]); have q3 : b < w7.heap.size := (Array.getElem?_eq_some_iff.1 hbo).1; have q4 : w7.cell? ⟨b, 0, none⟩ = some (.pointer (some ⟨b, 0, none⟩)) := by simp [World.cell?, hbo]))
  have hs1 := HS1.out
  have hb8 := heap_setCell_same w7 b 1 _ _ (.slice (some ⟨g, 0, none⟩) (bs.length + 1) cap) hbo
  have hown8 : w7.ownsRow lo 5 1 (.slice (some ⟨g, 0, none⟩) (bs.length + 1) cap) (bs ++ [c]).length (Lib.byteCells (bs ++ [c])) := by rw [byteCells_snoc, List.length_append]; exact hown7
  have HO8 := Lib.hid (ownsRow_setCell_below (a := ⟨b, 1, none⟩) hown8 hblo (.slice (some ⟨g, 0, none⟩) (bs.length + 1) cap))
  have HB8 := Lib.hid hb8
  have hbw : BldW w (w7.setCell ⟨b, 1, none⟩ (.slice (some ⟨g, 0, none⟩) (bs.length + 1) cap)) b lo := by
    refine ⟨fun x hx hxl hxs => ?_, by rw [size_setCell]; have := hg7.size; simp only [World.size_alloc] at this; omega, ?_⟩
    · rw [Below.heap_setCell _ _ _ _ hx, hg7.block x (by simp only [World.size_alloc]; omega) (fun e => by have := (HO1.out.lt x e.symm).1; omega), Lib.alloc_old w1 _ x (by omega)]
      exact HCH.out.oth x hx hxs
    · exact ((((HCH.out.bel b (Nat.le_refl _))).alloc (by omega) _).grown hg7 (by simp only [World.size_alloc]; omega) (fun k hk => by have := (HO1.out.lt k hk).1; omega)).setCell (Nat.le_refl _) _
  have HBW := Lib.hid hbw
  clear hs1 hown7 hg7 hown8 hbo hb8 hbw c1
  go_wp2_with fail
  go_ret
  exact ⟨rfl, ⟨hblo, _, _, .inr rfl, HB8.out, HO8.out⟩, HBW.out⟩

theorem BldAt.call {w w' : World} {b lo : Nat} {bs : List UInt8} (h : BldAt w b lo bs) (hB : Below w.heap.size w w') : BldAt w' b lo bs := by
  obtain ⟨p, v, hp, hb, hown⟩ := h.ex
  exact ⟨h.lt, p, v, hp, (hB.block b (Array.getElem?_eq_some_iff.1 hb).1).trans hb, own_below hown hB⟩

set_option maxRecDepth 100000 in
theorem string_any {w : World} {b lo : Nat} {bs : List UInt8} (h : BldAt w b lo bs) :
    Calls Tryz.prog 69 #[.pointer (some ⟨b, 0, none⟩)] w fun e w' => e = .returned (.string ⟨bs.toArray⟩) ∧ Lib.IsBuilderF 114 5 b b (Lib.byteCells bs) w' ∧ Below b w w' ∧ Lib.OthersKept 5 (some b) w w' := by
  obtain ⟨p, v, hp, hb, hown⟩ := h.ex
  have hlt := h.lt
  have hI : Lib.IsBuilderF 114 5 b b (Lib.byteCells bs) w := by
    have hat : Lib.BuilderAt 114 5 b b p (Lib.byteCells bs) w := ⟨Nat.le_refl _, v, hb, by rw [Lib.byteCells_length]; exact own_mono hown (by omega), fun e => by have := (hown.lt b e).1; omega⟩
    refine Lib.IsBuilderF.of ?_
    rcases hp with rfl | rfl
    · exact .inl hat
    · exact .inr hat
  exact Any.Builder_String_any_k Tryz.strS bldExtra b b bs w hI (Nat.le_of_lt (Array.getElem?_eq_some_iff.1 hb).1)
theorem stringF_any {w : World} {b : Nat} {bs : List UInt8} (h : Lib.IsBuilderF 114 5 b b (Lib.byteCells bs) w) (hb : b ≤ w.heap.size) :
    Calls Tryz.prog 69 #[.pointer (some ⟨b, 0, none⟩)] w fun e w' => e = .returned (.string ⟨bs.toArray⟩) ∧ Lib.IsBuilderF 114 5 b b (Lib.byteCells bs) w' ∧ Below b w w' ∧ Lib.OthersKept 5 (some b) w w' :=
  Any.Builder_String_any_k Tryz.strS bldExtra b b bs w h hb

theorem by8_take (x k : Nat) (hk : k < 8) : (by8 x).take (k + 1) = (by8 x).take k ++ [UInt8.ofNat (x >>> (8 * k))] := take_snoc (by
  unfold by8
  rw [List.getElem?_map, List.getElem?_range hk]; rfl)

set_option maxRecDepth 100000 in
set_option maxHeartbeats 4000000 in
theorem textW_any {w : World} {b lo rb W : Nat} {F : Nat → Bool} {bs : List UInt8} (h : BldAt w b lo bs) (hlo : lo ≤ w.heap.size) (hr : BitRow w rb W F) (hrl : rb < lo) (hrb : rb ≠ b) (hW : W ≤ 100) (hl : bs.length ≤ 10000000) :
    Calls Tryz.prog 67 #[.slice (some ⟨rb, 0, none⟩) W W, .pointer (some ⟨b, 0, none⟩)] w fun e w' => e = .returned (.tuple #[]) ∧ BldAt w' b lo (bs ++ bytesW F W) ∧ BldW w w' b lo := by
  have H := Lib.hid h; have HR := Lib.hid hr
  have hrw := hr.lt
  clear h hr
  go_enter Tryz.func67, Tryz.ntmps67
  go_wp2_with fail
  go_loopw [5, 6, 9] (fun _ _ v9 wr => ∃ j : Nat, v9 = .int .i64 j ∧ j ≤ W ∧ BldAt wr b lo (bs ++ bytesW F j) ∧ BldW w wr b lo) (fun _ _ v9 _ => W - (intOf v9).toNat)
  case atStart => exact ⟨0, rfl, Nat.zero_le _, by simpa [bytesW] using H.out, BldW.refl _ _ _⟩
  case round =>
    obtain ⟨j, rfl, hj, hbl, hbw⟩ := hrel
    have HBL := Lib.hid hbl; have HBW := Lib.hid hbw
    have hws := hbw.size
    clear hbl hbw H
    by_cases hjW : j < W
    · have hrr : BitRow wr rb W F := HR.out.of_block (HBW.out.oth rb hrb hrl hrw)
      have c0 := hrr.cell hjW
      have cl := hrr.lt
      have hxl := wj_lt F j
      obtain ⟨x, hx⟩ : ∃ x, x = wj F j := ⟨_, rfl⟩
      rw [← hx] at c0 hxl
      have hlen := bytesW_len F j
      have HX := Lib.hid hx; have HXL := Lib.hid hxl
      have hjI : (j : Int) < (W : Int) := by omega
      have HLEN : RowKit.Hid ((bs ++ bytesW F j).length ≤ 10000800) := Lib.hid (by rw [List.length_append, hlen]; omega)
      obtain ⟨b1, hb1⟩ : ∃ b1, b1 = bs ++ bytesW F j := ⟨_, rfl⟩
      rw [← hb1] at HBL HLEN
      have HB1 := Lib.hid hb1
      clear hrr hx hlen hb1 hxl
      go_wp2_with fail
      go_loopw [6, 13] (fun _ v13 wx => ∃ k : Nat, v13 = .int .i64 k ∧ k ≤ 8 ∧ BldAt wx b lo (b1 ++ (by8 x).take k) ∧ BldW w wx b lo) (fun _ v13 _ => 8 - (intOf v13).toNat)
      case atStart => exact ⟨0, rfl, by omega, by simpa using HBL.out, HBW.out⟩
      case round =>
        obtain ⟨k, rfl, hk, hbl, hbw⟩ := hrel
        have HBL2 := Lib.hid hbl; have HBW2 := Lib.hid hbw
        have hws2 := hbw.size
        clear hbl hbw HBL HBW
        by_cases hk8 : k < 8
        · have hkI : (k : Int) < 8 := by omega
          have HWB := Lib.hid (writeByte_any HBL2.out (by omega) (by have := HLEN.out; rw [List.length_append, List.length_take, by8_len]; omega) (UInt8.ofNat (x >>> (8 * k))))
          have hsh : (x : Int) / 2 ^ (8 * k) % 256 = (((UInt8.ofNat (x >>> (8 * k))).toNat : Nat) : Int) := by
            rw [UInt8.toNat_ofNat', Nat.shiftRight_eq_div_pow]
            simp
          have HTK : RowKit.Hid (b1 ++ (by8 x).take (k + 1) = (b1 ++ (by8 x).take k) ++ [UInt8.ofNat (x >>> (8 * k))]) := Lib.hid (by rw [by8_take x k hk8, List.append_assoc])
          have HSH := Lib.hid hsh
          clear hsh
          go_wp2_with fail
          rw [HSH.out]
          refine HWB.out.mono ?_
          rintro e w5 ⟨rfl, hbl5, hbw5⟩
          have HB5 := Lib.hid hbl5; have HW5 := Lib.hid (HBW2.out.trans hbw5)
          clear hbl5 hbw5 HWB HBL2 HBW2
          go_wp2_with fail
          go_roundw
          case rel => exact ⟨k + 1, by go_num, by omega, by rw [HTK.out]; exact HB5.out, HW5.out⟩
          case measure => simp [intOf]; omega
        · obtain rfl : k = 8 := by omega
          have HB5 : RowKit.Hid (BldAt wr b lo (bs ++ bytesW F (j + 1))) := Lib.hid (by
            have h1 := HBL2.out
            rw [List.take_of_length_le (by rw [by8_len]; omega), HB1.out, List.append_assoc, HX.out, ← bytesW_succ] at h1
            exact h1)
          clear HBL2
          go_wp2_with fail
          go_roundw
          case rel => exact ⟨j + 1, by go_num, by omega, HB5.out, HBW2.out⟩
          case measure => simp [intOf]; omega
    · obtain rfl : j = W := by omega
      go_wp2_with fail
      go_end0
      exact ⟨rfl, HBL.out, HBW.out⟩
end Go.Proofs.YtdhloijdefnkpaaGreatDoor
