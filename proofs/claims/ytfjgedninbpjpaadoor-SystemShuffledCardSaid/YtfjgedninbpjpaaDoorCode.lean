/-
  api.Code: at nil, and at a fault that wraps api.ErrSystem.
-/
import Derived.Test.YtfjgedninbpjpaaDoorErrIs
import Derived.Test.YtfjgedninbpjpaaDoorNew
namespace Go.Proofs.YtfjgedninbpjpaaDoor
open Go.RowKit Pl

/-- Another package-level error: its pointer, its own block. -/
def Sent (g : Nat) (p : Addr) (w : World) : Prop := ∃ (q : Addr) (c : Array Value) (t : TypeId), GErr g q w ∧ q ≠ p ∧ w.heap[q.block]? = some (.cells c t (0, 0))

theorem Sent.below {g : Nat} {p : Addr} {w w' : World} (h : Sent g p w) (hB : Below w.heap.size w w') : Sent g p w' := by
  obtain ⟨q, c, t, h1, h2, h3⟩ := h
  exact ⟨q, c, t, h1.below hB, h2, by rw [hB.block _ (Array.getElem?_eq_some_iff.1 h3).1]; exact h3⟩

/-- What api.Code reads, up to api.ErrSystem. -/
structure Errs (p : Addr) (w : World) : Prop where
  sys : GErr 0 p w
  blk : ∃ c t, w.heap[p.block]? = some (.cells c t (0, 0))
  eArg : Sent 1 p w
  eLong : Sent 2 p w
  eIndex : Sent 3 p w
  eWord : Sent 4 p w
  eSyntax : Sent 5 p w
  eDeep : Sent 6 p w
  eTwice : Sent 7 p w
  eUnknown : Sent 8 p w
  eSilent : Sent 9 p w
  eUnguarded : Sent 10 p w
  eSteps : Sent 12 p w
  eStates : Sent 13 p w
  eEdges : Sent 14 p w

theorem Errs.below {p : Addr} {w w' : World} (h : Errs p w) (hB : Below w.heap.size w w') : Errs p w' :=
  ⟨h.sys.below hB, by obtain ⟨c, t, h1⟩ := h.blk; exact ⟨c, t, by rw [hB.block _ (Array.getElem?_eq_some_iff.1 h1).1]; exact h1⟩, h.eArg.below hB, h.eLong.below hB, h.eIndex.below hB, h.eWord.below hB, h.eSyntax.below hB, h.eDeep.below hB, h.eTwice.below hB, h.eUnknown.below hB, h.eSilent.below hB, h.eUnguarded.below hB, h.eSteps.below hB, h.eStates.below hB, h.eEdges.below hB⟩

theorem is_at {g fb : Nat} {p : Addr} {w : World} (h : Sent g p w) (hp : ∃ c t, w.heap[p.block]? = some (.cells c t (0, 0))) (hc : w.cell? ⟨fb, 3, none⟩ = some (.iface 210 (.pointer (some p)))) :
    ∃ q, w.cell? ⟨g, 0, none⟩ = some (.iface 210 (.pointer (some q))) ∧ Calls Tryd.prog 37 #[.iface 145 (.pointer (some ⟨fb, 0, none⟩)), .iface 210 (.pointer (some q))] w fun e w' => e = .returned (.bool false) ∧ w = w' := by
  obtain ⟨q, c, t, h1, h2, h3⟩ := h
  obtain ⟨c2, t2, h4⟩ := hp
  exact ⟨q, h1.cell, is_fault_other fb q p c2 c t2 t w hc (Ne.symm h2) h4 h3⟩

set_option maxRecDepth 100000 in
set_option maxHeartbeats 2000000 in
theorem rest_fault {p : Addr} {w : World} {fb : Nat} (hE : Errs p w) (hc : w.cell? ⟨fb, 3, none⟩ = some (.iface 210 (.pointer (some p)))) :
    Calls Tryd.prog 85 #[.iface 145 (.pointer (some ⟨fb, 0, none⟩))] w fun e w' => e = .returned (.int .i64 14) ∧ w = w' := by
  obtain ⟨qSteps, cSteps, iSteps⟩ := is_at hE.eSteps hE.blk hc
  have ISteps := Lib.hid iSteps; clear iSteps
  obtain ⟨qStates, cStates, iStates⟩ := is_at hE.eStates hE.blk hc
  have IStates := Lib.hid iStates; clear iStates
  obtain ⟨qEdges, cEdges, iEdges⟩ := is_at hE.eEdges hE.blk hc
  have IEdges := Lib.hid iEdges; clear iEdges
  have hs := hE.sys.cell
  have HS := Lib.hid (is_fault_same fb p w hc)
  clear hE hc
  go_enter Tryd.func85, Tryd.ntmps85
  go_wp2_with fail
  refine ISteps.out.mono ?_
  rintro e w' ⟨rfl, rfl⟩
  go_wp2_with fail
  refine IStates.out.mono ?_
  rintro e w' ⟨rfl, rfl⟩
  go_wp2_with fail
  refine IEdges.out.mono ?_
  rintro e w' ⟨rfl, rfl⟩
  go_wp2_with fail
  refine HS.out.mono ?_
  rintro e w' ⟨rfl, rfl⟩
  go_wp2
  go_ret
  exact ⟨rfl, rfl⟩

set_option maxRecDepth 100000 in
set_option maxHeartbeats 2000000 in
theorem code_fault {p : Addr} {w : World} {fb : Nat} (hE : Errs p w) (hc : w.cell? ⟨fb, 3, none⟩ = some (.iface 210 (.pointer (some p)))) :
    Calls Tryd.prog 48 #[.iface 145 (.pointer (some ⟨fb, 0, none⟩))] w fun e w' => e = .returned (.int .i64 14) ∧ w = w' := by
  obtain ⟨qArg, cArg, iArg⟩ := is_at hE.eArg hE.blk hc
  have IArg := Lib.hid iArg; clear iArg
  obtain ⟨qLong, cLong, iLong⟩ := is_at hE.eLong hE.blk hc
  have ILong := Lib.hid iLong; clear iLong
  obtain ⟨qIndex, cIndex, iIndex⟩ := is_at hE.eIndex hE.blk hc
  have IIndex := Lib.hid iIndex; clear iIndex
  obtain ⟨qWord, cWord, iWord⟩ := is_at hE.eWord hE.blk hc
  have IWord := Lib.hid iWord; clear iWord
  obtain ⟨qSyntax, cSyntax, iSyntax⟩ := is_at hE.eSyntax hE.blk hc
  have ISyntax := Lib.hid iSyntax; clear iSyntax
  obtain ⟨qDeep, cDeep, iDeep⟩ := is_at hE.eDeep hE.blk hc
  have IDeep := Lib.hid iDeep; clear iDeep
  obtain ⟨qTwice, cTwice, iTwice⟩ := is_at hE.eTwice hE.blk hc
  have ITwice := Lib.hid iTwice; clear iTwice
  obtain ⟨qUnknown, cUnknown, iUnknown⟩ := is_at hE.eUnknown hE.blk hc
  have IUnknown := Lib.hid iUnknown; clear iUnknown
  obtain ⟨qSilent, cSilent, iSilent⟩ := is_at hE.eSilent hE.blk hc
  have ISilent := Lib.hid iSilent; clear iSilent
  obtain ⟨qUnguarded, cUnguarded, iUnguarded⟩ := is_at hE.eUnguarded hE.blk hc
  have IUnguarded := Lib.hid iUnguarded; clear iUnguarded
  have HS := Lib.hid (rest_fault hE hc)
  clear hE hc
  go_enter Tryd.func48, Tryd.ntmps48
  go_wp2_with fail
  refine IArg.out.mono ?_
  rintro e w' ⟨rfl, rfl⟩
  go_wp2_with fail
  refine ILong.out.mono ?_
  rintro e w' ⟨rfl, rfl⟩
  go_wp2_with fail
  refine IIndex.out.mono ?_
  rintro e w' ⟨rfl, rfl⟩
  go_wp2_with fail
  refine IWord.out.mono ?_
  rintro e w' ⟨rfl, rfl⟩
  go_wp2_with fail
  refine ISyntax.out.mono ?_
  rintro e w' ⟨rfl, rfl⟩
  go_wp2_with fail
  refine IDeep.out.mono ?_
  rintro e w' ⟨rfl, rfl⟩
  go_wp2_with fail
  refine ITwice.out.mono ?_
  rintro e w' ⟨rfl, rfl⟩
  go_wp2_with fail
  refine IUnknown.out.mono ?_
  rintro e w' ⟨rfl, rfl⟩
  go_wp2_with fail
  refine ISilent.out.mono ?_
  rintro e w' ⟨rfl, rfl⟩
  go_wp2_with fail
  refine IUnguarded.out.mono ?_
  rintro e w' ⟨rfl, rfl⟩
  go_wp2_with fail
  refine HS.out.mono ?_
  rintro e w' ⟨rfl, rfl⟩
  go_wp2
  go_ret
  exact ⟨rfl, rfl⟩

theorem code_nil (w : World) : Calls Tryd.prog 48 #[.nilIface] w fun e w' => e = .returned (.int .i64 0) ∧ w = w' := by
  go_enter Tryd.func48, Tryd.ntmps48
  go_wp2
  go_ret
  exact ⟨rfl, rfl⟩

theorem code_at {p : Addr} {w : World} {v : Value} {l : ByteArray} (hE : Errs p w) (hF : FaultAt w v l (.iface 210 (.pointer (some p)))) :
    Calls Tryd.prog 48 #[v] w fun e w' => e = .returned (.int .i64 14) ∧ w = w' := by
  obtain ⟨b, rfl, h⟩ := hF.ex
  exact code_fault hE (by simp [World.cell?, h])
end Go.Proofs.YtfjgedninbpjpaaDoor
