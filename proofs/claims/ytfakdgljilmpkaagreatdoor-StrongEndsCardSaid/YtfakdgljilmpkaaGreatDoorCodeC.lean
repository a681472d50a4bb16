/-
  api.Code at a fault that wraps api.ErrClasses.
-/
import Derived.Test.YtfakdgljilmpkaaGreatDoorGFault
namespace Go.Proofs.YtfakdgljilmpkaaGreatDoor
open Go.RowKit Pl

/-- Another package-level error: its pointer, its own block. -/
def SentC (g : Nat) (p : Addr) (w : World) : Prop := ∃ (q : Addr) (c : Array Value) (t : TypeId), GErr g q w ∧ q ≠ p ∧ w.heap[q.block]? = some (.cells c t (0, 0))

theorem SentC.below {g : Nat} {p : Addr} {w w' : World} (h : SentC g p w) (hB : Below w.heap.size w w') : SentC g p w' := by
  obtain ⟨q, c, t, h1, h2, h3⟩ := h
  exact ⟨q, c, t, h1.below hB, h2, by rw [hB.block _ (Array.getElem?_eq_some_iff.1 h3).1]; exact h3⟩

/-- What api.Code reads, up to api.ErrClasses. -/
structure ErrsC (p : Addr) (w : World) : Prop where
  sys : GErr 2 p w
  blk : ∃ c t, w.heap[p.block]? = some (.cells c t (0, 0))
  eArg : SentC 3 p w
  eLong : SentC 4 p w
  eIndex : SentC 1 p w
  eWord : SentC 5 p w
  eSyntax : SentC 6 p w
  eDeep : SentC 7 p w
  eTwice : SentC 8 p w
  eUnknown : SentC 9 p w
  eSilent : SentC 10 p w
  eUnguarded : SentC 11 p w
  eSteps : SentC 14 p w
  eStates : SentC 15 p w
  eEdges : SentC 12 p w
  eSystem : SentC 0 p w

theorem ErrsC.below {p : Addr} {w w' : World} (h : ErrsC p w) (hB : Below w.heap.size w w') : ErrsC p w' :=
  ⟨h.sys.below hB, by obtain ⟨c, t, h1⟩ := h.blk; exact ⟨c, t, by rw [hB.block _ (Array.getElem?_eq_some_iff.1 h1).1]; exact h1⟩, h.eArg.below hB, h.eLong.below hB, h.eIndex.below hB, h.eWord.below hB, h.eSyntax.below hB, h.eDeep.below hB, h.eTwice.below hB, h.eUnknown.below hB, h.eSilent.below hB, h.eUnguarded.below hB, h.eSteps.below hB, h.eStates.below hB, h.eEdges.below hB, h.eSystem.below hB⟩

theorem is_atC {g fb : Nat} {p : Addr} {w : World} (h : SentC g p w) (hp : ∃ c t, w.heap[p.block]? = some (.cells c t (0, 0))) (hc : w.cell? ⟨fb, 3, none⟩ = some (.iface 275 (.pointer (some p)))) :
    ∃ q, w.cell? ⟨g, 0, none⟩ = some (.iface 275 (.pointer (some q))) ∧ Calls Tryz.prog 27 #[.iface 160 (.pointer (some ⟨fb, 0, none⟩)), .iface 275 (.pointer (some q))] w fun e w' => e = .returned (.bool false) ∧ w = w' := by
  obtain ⟨q, c, t, h1, h2, h3⟩ := h
  obtain ⟨c2, t2, h4⟩ := hp
  exact ⟨q, h1.cell, is_fault_other fb q p c2 c t2 t w hc (Ne.symm h2) h4 h3⟩

set_option maxRecDepth 100000 in
set_option maxHeartbeats 2000000 in
theorem restC_fault {p : Addr} {w : World} {fb : Nat} (hE : ErrsC p w) (hc : w.cell? ⟨fb, 3, none⟩ = some (.iface 275 (.pointer (some p)))) :
    Calls Tryz.prog 83 #[.iface 160 (.pointer (some ⟨fb, 0, none⟩))] w fun e w' => e = .returned (.int .i64 15) ∧ w = w' := by
  obtain ⟨qSteps, cSteps, iSteps⟩ := is_atC hE.eSteps hE.blk hc
  have ISteps := Lib.hid iSteps; clear iSteps
  obtain ⟨qStates, cStates, iStates⟩ := is_atC hE.eStates hE.blk hc
  have IStates := Lib.hid iStates; clear iStates
  obtain ⟨qEdges, cEdges, iEdges⟩ := is_atC hE.eEdges hE.blk hc
  have IEdges := Lib.hid iEdges; clear iEdges
  obtain ⟨qSystem, cSystem, iSystem⟩ := is_atC hE.eSystem hE.blk hc
  have ISystem := Lib.hid iSystem; clear iSystem
  have hs := hE.sys.cell
  have HS := Lib.hid (is_fault_same fb p w hc)
  clear hE hc
  go_enter Tryz.func83, Tryz.ntmps83
  go_wp2_with fail
  refine ISteps.out.mono ?_
  rintro e w' ⟨rfl, rfl⟩
  go_wp2_with fail
  refine IStates.out.mono ?_
  rintro e w' ⟨rfl, rfl⟩
  go_wp2_with fail
  refine IEdges.out.mono ?_
  rintro e w' ⟨rfl, rfl⟩
  go_wp2_with fail
  refine ISystem.out.mono ?_
  rintro e w' ⟨rfl, rfl⟩
  go_wp2_with fail
  refine HS.out.mono ?_
  rintro e w' ⟨rfl, rfl⟩
  go_wp2
  go_ret
  exact ⟨rfl, rfl⟩

set_option maxRecDepth 100000 in
set_option maxHeartbeats 2000000 in
theorem codeC_fault {p : Addr} {w : World} {fb : Nat} (hE : ErrsC p w) (hc : w.cell? ⟨fb, 3, none⟩ = some (.iface 275 (.pointer (some p)))) :
    Calls Tryz.prog 40 #[.iface 160 (.pointer (some ⟨fb, 0, none⟩))] w fun e w' => e = .returned (.int .i64 15) ∧ w = w' := by
  obtain ⟨qArg, cArg, iArg⟩ := is_atC hE.eArg hE.blk hc
  have IArg := Lib.hid iArg; clear iArg
  obtain ⟨qLong, cLong, iLong⟩ := is_atC hE.eLong hE.blk hc
  have ILong := Lib.hid iLong; clear iLong
  obtain ⟨qIndex, cIndex, iIndex⟩ := is_atC hE.eIndex hE.blk hc
  have IIndex := Lib.hid iIndex; clear iIndex
  obtain ⟨qWord, cWord, iWord⟩ := is_atC hE.eWord hE.blk hc
  have IWord := Lib.hid iWord; clear iWord
  obtain ⟨qSyntax, cSyntax, iSyntax⟩ := is_atC hE.eSyntax hE.blk hc
  have ISyntax := Lib.hid iSyntax; clear iSyntax
  obtain ⟨qDeep, cDeep, iDeep⟩ := is_atC hE.eDeep hE.blk hc
  have IDeep := Lib.hid iDeep; clear iDeep
  obtain ⟨qTwice, cTwice, iTwice⟩ := is_atC hE.eTwice hE.blk hc
  have ITwice := Lib.hid iTwice; clear iTwice
  obtain ⟨qUnknown, cUnknown, iUnknown⟩ := is_atC hE.eUnknown hE.blk hc
  have IUnknown := Lib.hid iUnknown; clear iUnknown
  obtain ⟨qSilent, cSilent, iSilent⟩ := is_atC hE.eSilent hE.blk hc
  have ISilent := Lib.hid iSilent; clear iSilent
  obtain ⟨qUnguarded, cUnguarded, iUnguarded⟩ := is_atC hE.eUnguarded hE.blk hc
  have IUnguarded := Lib.hid iUnguarded; clear iUnguarded
  have HS := Lib.hid (restC_fault hE hc)
  clear hE hc
  go_enter Tryz.func40, Tryz.ntmps40
  go_wp2_with fail
  refine IArg.out.mono ?_
  rintro e w' ⟨rfl, rfl⟩
  go_wp2_with fail
  refine ILong.out.mono ?_
  rintro e w' ⟨rfl, rfl⟩
  go_wp2_with fail
  refine IIndex.out.mono ?_
  rintro e w' ⟨rfl, rfl⟩
  go_wp2_with fail
  refine IWord.out.mono ?_
  rintro e w' ⟨rfl, rfl⟩
  go_wp2_with fail
  refine ISyntax.out.mono ?_
  rintro e w' ⟨rfl, rfl⟩
  go_wp2_with fail
  refine IDeep.out.mono ?_
  rintro e w' ⟨rfl, rfl⟩
  go_wp2_with fail
  refine ITwice.out.mono ?_
  rintro e w' ⟨rfl, rfl⟩
  go_wp2_with fail
  refine IUnknown.out.mono ?_
  rintro e w' ⟨rfl, rfl⟩
  go_wp2_with fail
  refine ISilent.out.mono ?_
  rintro e w' ⟨rfl, rfl⟩
  go_wp2_with fail
  refine IUnguarded.out.mono ?_
  rintro e w' ⟨rfl, rfl⟩
  go_wp2_with fail
  refine HS.out.mono ?_
  rintro e w' ⟨rfl, rfl⟩
  go_wp2
  go_ret
  exact ⟨rfl, rfl⟩

theorem codeC_at {p : Addr} {w : World} {v : Value} {l : ByteArray} (hE : ErrsC p w) (hF : FaultAt w v l (.iface 275 (.pointer (some p)))) :
    Calls Tryz.prog 40 #[v] w fun e w' => e = .returned (.int .i64 15) ∧ w = w' := by
  obtain ⟨b, rfl, h⟩ := hF.ex
  exact codeC_fault hE (by simp [World.cell?, h])
end Go.Proofs.YtfakdgljilmpkaaGreatDoor
