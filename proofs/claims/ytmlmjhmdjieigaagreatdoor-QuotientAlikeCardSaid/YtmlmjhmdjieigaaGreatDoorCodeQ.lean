/-
  errors.Is and api.Code at a fault of quotient that wraps a fault that wraps api.ErrSystem.
-/
import Derived.Test.YtmlmjhmdjieigaaGreatDoorGStrG
import Derived.Test.YtmlmjhmdjieigaaGreatDoorQuoF
namespace Go.Proofs.YtmlmjhmdjieigaaGreatDoor
open Go.RowKit Go.Extern.Stop Go.Stop Go.Extern Pl

set_option maxRecDepth 100000 in
/-- errors.Is(a fault that wraps a fault that wraps x itself, x). -/
theorem is_faultQ_same (pb pc : Nat) (b : Addr) (w : World) (h1 : w.cell? ⟨pb, 3, none⟩ = some (.iface 92 (.pointer (some ⟨pc, 0, none⟩)))) (h2 : w.cell? ⟨pc, 3, none⟩ = some (.iface 244 (.pointer (some b)))) :
    Calls Tryz.prog 54 #[.iface 92 (.pointer (some ⟨pb, 0, none⟩)), .iface 244 (.pointer (some b))] w fun e w' => e = .returned (.bool true) ∧ w = w' := by
  obtain ⟨i, hi, hcmp⟩ := Option.map_eq_some_iff.1 isComp
  obtain ⟨j, hj, hjs⟩ := Option.map_eq_some_iff.1 isSize
  have tT := isTypeOf
  have cT := isComparable
  have mR := isMethodComparable
  have nE := noIsE
  have uE := noUnwrapE
  have vE := noUnwrapsE
  have nW := noIsW
  have uW := hasUnwrapW
  have mU := methodUnwrap
  have heq := run_eql_iface_ptr_same (P := Tryz.prog) w b Tryz.underlying29 Tryz.underlying244 hi hcmp hj
  have hty := run_eql_iface_types (P := Tryz.prog) 92 244 (.pointer (some ⟨pb, 0, none⟩)) (.pointer (some b)) Tryz.underlying29 (by decide) w
  have hty2 := run_eql_iface_types (P := Tryz.prog) 92 244 (.pointer (some ⟨pc, 0, none⟩)) (.pointer (some b)) Tryz.underlying29 (by decide) w
  go_enter Tryz.func54, Tryz.ntmps54
  go_wp2
  refine wp_loop_rounds 3 ?_
  rw [rounds_succ]
  go_wp2
  rw [rounds_succ]
  go_wp2
  rw [rounds_succ]
  go_wp2
  go_ret
  exact ⟨rfl, rfl⟩

set_option maxRecDepth 100000 in
/-- errors.Is(a fault that wraps a fault that wraps another error, x). -/
theorem is_faultQ_other (pb pc : Nat) (b a : Addr) (ca cb : Array Value) (ta tb : TypeId) (w : World) (h1 : w.cell? ⟨pb, 3, none⟩ = some (.iface 92 (.pointer (some ⟨pc, 0, none⟩)))) (h2 : w.cell? ⟨pc, 3, none⟩ = some (.iface 244 (.pointer (some a)))) (hne : a ≠ b) (ha : w.heap[a.block]? = some (.cells ca ta (0, 0))) (hb : w.heap[b.block]? = some (.cells cb tb (0, 0))) :
    Calls Tryz.prog 54 #[.iface 92 (.pointer (some ⟨pb, 0, none⟩)), .iface 244 (.pointer (some b))] w fun e w' => e = .returned (.bool false) ∧ w = w' := by
  obtain ⟨i, hi, hcmp⟩ := Option.map_eq_some_iff.1 isComp
  obtain ⟨j, hj, hjs⟩ := Option.map_eq_some_iff.1 isSize
  have tT := isTypeOf
  have cT := isComparable
  have mR := isMethodComparable
  have nE := noIsE
  have uE := noUnwrapE
  have vE := noUnwrapsE
  have nW := noIsW
  have uW := hasUnwrapW
  have mU := methodUnwrap
  have heq := run_eql_iface_ptr_other (P := Tryz.prog) w Tryz.underlying29 Tryz.underlying244 hi hcmp hj (by rw [hjs]; decide) hne ha hb
  have hty := run_eql_iface_types (P := Tryz.prog) 92 244 (.pointer (some ⟨pb, 0, none⟩)) (.pointer (some b)) Tryz.underlying29 (by decide) w
  have hty2 := run_eql_iface_types (P := Tryz.prog) 92 244 (.pointer (some ⟨pc, 0, none⟩)) (.pointer (some b)) Tryz.underlying29 (by decide) w
  go_enter Tryz.func54, Tryz.ntmps54
  go_wp2
  refine wp_loop_rounds 3 ?_
  rw [rounds_succ]
  go_wp2
  rw [rounds_succ]
  go_wp2
  rw [rounds_succ]
  go_wp2
  go_ret
  exact ⟨rfl, rfl⟩

/-- Another package-level error: its pointer, its own block. -/
def SentQ (g : Nat) (p : Addr) (w : World) : Prop := ∃ (q : Addr) (c : Array Value) (t : TypeId), GErr g q w ∧ q ≠ p ∧ w.heap[q.block]? = some (.cells c t (0, 0))

theorem SentQ.below {g : Nat} {p : Addr} {w w' : World} (h : SentQ g p w) (hB : Below w.heap.size w w') : SentQ g p w' := by
  obtain ⟨q, c, t, h1, h2, h3⟩ := h
  exact ⟨q, c, t, h1.below hB, h2, by rw [hB.block _ (Array.getElem?_eq_some_iff.1 h3).1]; exact h3⟩

/-- What api.Code reads, up to api.ErrSystem. -/
structure ErrsQ (p : Addr) (w : World) : Prop where
  sys : GErr 10 p w
  blk : ∃ c t, w.heap[p.block]? = some (.cells c t (0, 0))
  eArg : SentQ 1 p w
  eLong : SentQ 2 p w
  eIndex : SentQ 0 p w
  eWord : SentQ 3 p w
  eSyntax : SentQ 4 p w
  eDeep : SentQ 5 p w
  eTwice : SentQ 6 p w
  eUnknown : SentQ 7 p w
  eSilent : SentQ 8 p w
  eUnguarded : SentQ 9 p w
  eSteps : SentQ 12 p w
  eStates : SentQ 13 p w
  eEdges : SentQ 14 p w

theorem ErrsQ.below {p : Addr} {w w' : World} (h : ErrsQ p w) (hB : Below w.heap.size w w') : ErrsQ p w' :=
  ⟨h.sys.below hB, by obtain ⟨c, t, h1⟩ := h.blk; exact ⟨c, t, by rw [hB.block _ (Array.getElem?_eq_some_iff.1 h1).1]; exact h1⟩, h.eArg.below hB, h.eLong.below hB, h.eIndex.below hB, h.eWord.below hB, h.eSyntax.below hB, h.eDeep.below hB, h.eTwice.below hB, h.eUnknown.below hB, h.eSilent.below hB, h.eUnguarded.below hB, h.eSteps.below hB, h.eStates.below hB, h.eEdges.below hB⟩

theorem is_atQ {g pb pc : Nat} {p : Addr} {w : World} (h : SentQ g p w) (hp : ∃ c t, w.heap[p.block]? = some (.cells c t (0, 0))) (h1 : w.cell? ⟨pb, 3, none⟩ = some (.iface 92 (.pointer (some ⟨pc, 0, none⟩)))) (h2 : w.cell? ⟨pc, 3, none⟩ = some (.iface 244 (.pointer (some p)))) :
    ∃ q, w.cell? ⟨g, 0, none⟩ = some (.iface 244 (.pointer (some q))) ∧ Calls Tryz.prog 54 #[.iface 92 (.pointer (some ⟨pb, 0, none⟩)), .iface 244 (.pointer (some q))] w fun e w' => e = .returned (.bool false) ∧ w = w' := by
  obtain ⟨q, c, t, h3, h4, h5⟩ := h
  obtain ⟨c2, t2, h6⟩ := hp
  exact ⟨q, h3.cell, is_faultQ_other pb pc q p c2 c t2 t w h1 h2 (Ne.symm h4) h6 h5⟩

set_option maxRecDepth 100000 in
set_option maxHeartbeats 2000000 in
theorem restQ_fault {p : Addr} {w : World} {pb pc : Nat} (hE : ErrsQ p w) (h1 : w.cell? ⟨pb, 3, none⟩ = some (.iface 92 (.pointer (some ⟨pc, 0, none⟩)))) (h2 : w.cell? ⟨pc, 3, none⟩ = some (.iface 244 (.pointer (some p)))) :
    Calls Tryz.prog 55 #[.iface 92 (.pointer (some ⟨pb, 0, none⟩))] w fun e w' => e = .returned (.int .i64 14) ∧ w = w' := by
  obtain ⟨qSteps, cSteps, iSteps⟩ := is_atQ hE.eSteps hE.blk h1 h2
  have ISteps := Lib.hid iSteps; clear iSteps
  obtain ⟨qStates, cStates, iStates⟩ := is_atQ hE.eStates hE.blk h1 h2
  have IStates := Lib.hid iStates; clear iStates
  obtain ⟨qEdges, cEdges, iEdges⟩ := is_atQ hE.eEdges hE.blk h1 h2
  have IEdges := Lib.hid iEdges; clear iEdges
  have hs := hE.sys.cell
  have HS := Lib.hid (is_faultQ_same pb pc p w h1 h2)
  clear hE h1 h2
  go_enter Tryz.func55, Tryz.ntmps55
  go_wp2_with fail
  refine ISteps.out.mono ?_
  rintro e w' ⟨rfl, rfl⟩
  go_wp2_with fail
  refine IStates.out.mono ?_
  rintro e w' ⟨rfl, rfl⟩
  go_wp2_with fail
  refine IEdges.out.mono ?_
  rintro e w' ⟨rfl, rfl⟩
  go_wp2_with fail
  refine HS.out.mono ?_
  rintro e w' ⟨rfl, rfl⟩
  go_wp2
  go_ret
  exact ⟨rfl, rfl⟩

set_option maxRecDepth 100000 in
set_option maxHeartbeats 2000000 in
theorem codeQ_fault {p : Addr} {w : World} {pb pc : Nat} (hE : ErrsQ p w) (h1 : w.cell? ⟨pb, 3, none⟩ = some (.iface 92 (.pointer (some ⟨pc, 0, none⟩)))) (h2 : w.cell? ⟨pc, 3, none⟩ = some (.iface 244 (.pointer (some p)))) :
    Calls Tryz.prog 21 #[.iface 92 (.pointer (some ⟨pb, 0, none⟩))] w fun e w' => e = .returned (.int .i64 14) ∧ w = w' := by
  obtain ⟨qArg, cArg, iArg⟩ := is_atQ hE.eArg hE.blk h1 h2
  have IArg := Lib.hid iArg; clear iArg
  obtain ⟨qLong, cLong, iLong⟩ := is_atQ hE.eLong hE.blk h1 h2
  have ILong := Lib.hid iLong; clear iLong
  obtain ⟨qIndex, cIndex, iIndex⟩ := is_atQ hE.eIndex hE.blk h1 h2
  have IIndex := Lib.hid iIndex; clear iIndex
  obtain ⟨qWord, cWord, iWord⟩ := is_atQ hE.eWord hE.blk h1 h2
  have IWord := Lib.hid iWord; clear iWord
  obtain ⟨qSyntax, cSyntax, iSyntax⟩ := is_atQ hE.eSyntax hE.blk h1 h2
  have ISyntax := Lib.hid iSyntax; clear iSyntax
  obtain ⟨qDeep, cDeep, iDeep⟩ := is_atQ hE.eDeep hE.blk h1 h2
  have IDeep := Lib.hid iDeep; clear iDeep
  obtain ⟨qTwice, cTwice, iTwice⟩ := is_atQ hE.eTwice hE.blk h1 h2
  have ITwice := Lib.hid iTwice; clear iTwice
  obtain ⟨qUnknown, cUnknown, iUnknown⟩ := is_atQ hE.eUnknown hE.blk h1 h2
  have IUnknown := Lib.hid iUnknown; clear iUnknown
  obtain ⟨qSilent, cSilent, iSilent⟩ := is_atQ hE.eSilent hE.blk h1 h2
  have ISilent := Lib.hid iSilent; clear iSilent
  obtain ⟨qUnguarded, cUnguarded, iUnguarded⟩ := is_atQ hE.eUnguarded hE.blk h1 h2
  have IUnguarded := Lib.hid iUnguarded; clear iUnguarded
  have HS := Lib.hid (restQ_fault hE h1 h2)
  clear hE h1 h2
  go_enter Tryz.func21, Tryz.ntmps21
  go_wp2_with fail
  refine IArg.out.mono ?_
  rintro e w' ⟨rfl, rfl⟩
  go_wp2_with fail
  refine ILong.out.mono ?_
  rintro e w' ⟨rfl, rfl⟩
  go_wp2_with fail
  refine IIndex.out.mono ?_
  rintro e w' ⟨rfl, rfl⟩
  go_wp2_with fail
  refine IWord.out.mono ?_
  rintro e w' ⟨rfl, rfl⟩
  go_wp2_with fail
  refine ISyntax.out.mono ?_
  rintro e w' ⟨rfl, rfl⟩
  go_wp2_with fail
  refine IDeep.out.mono ?_
  rintro e w' ⟨rfl, rfl⟩
  go_wp2_with fail
  refine ITwice.out.mono ?_
  rintro e w' ⟨rfl, rfl⟩
  go_wp2_with fail
  refine IUnknown.out.mono ?_
  rintro e w' ⟨rfl, rfl⟩
  go_wp2_with fail
  refine ISilent.out.mono ?_
  rintro e w' ⟨rfl, rfl⟩
  go_wp2_with fail
  refine IUnguarded.out.mono ?_
  rintro e w' ⟨rfl, rfl⟩
  go_wp2_with fail
  refine HS.out.mono ?_
  rintro e w' ⟨rfl, rfl⟩
  go_wp2
  go_ret
  exact ⟨rfl, rfl⟩

theorem codeQ_at {p : Addr} {w : World} {v : Value} (hE : ErrsQ p w) (hF : FaultQ w p v) :
    Calls Tryz.prog 21 #[v] w fun e w' => e = .returned (.int .i64 14) ∧ w = w' := by
  obtain ⟨vi, ⟨b, rfl, hb⟩, ⟨b2, rfl, hb2⟩⟩ := hF
  exact codeQ_fault (pc := b2) hE (by simp [World.cell?, hb]) (by simp [World.cell?, hb2])
end Go.Proofs.YtmlmjhmdjieigaaGreatDoor
