/-
  For every system s (whatever its numbers and edges) semblancelaw13.WeakSteps(s) returns true, and its edges read behind the call as they read before.
  Condition: when the call begins the package-level variables math/bits.deBruijn64tab, errors.errorType, all errors of semblance/api and semblance/weak.errGreat read as what their initialisers lay (the card ties them to the program's own text). No other condition.
-/
import Derived.Test.YtbaccmlfnbgehaaGreatDoorLaidWss
import Derived.Test.YtbaccmlfnbgehaaGreatDoorLawWkSt
set_option maxRecDepth 100000
namespace Go.Proofs.YtbaccmlfnbgehaaGreatDoor.weakSteps
open Go.ChangeShapes Go.WideShapes Go.ChangeAt Go.RowKit
theorem contract (H : Type) (enc : TypeId × Value -> H) (W : World) (base : Nat) (args : Array Value) (ds gs : List (DataW H)) (before : List MemPlace)
    (hval : ∀ (j : Nat) t v, Tryz.f4.params[j]? = some t -> args[j]? = some v -> Value.okWide Tryz.prog W .any base t v)
    (hW : DataW.Whole enc Tryz.prog Tryz.f4.params.toList Rows.weakStepsSpec.vars false W args.toList ds gs before) (hL : laidMetH Tryz.prog Rows.weakStepsRow.laid W) :
    Calls Tryz.prog 4 args W fun e W' => ∃ v, e = .returned v /\ Rows.weakStepsSpec.post enc Tryz.prog Tryz.f4 false true false false W args v W' := by
 have hW' := hW
 obtain ⟨p, q, hA0, hV, rfl, hfz, hnd⟩ := hW
 have hA : DataW.TrodAll enc Tryz.prog W 0 (fun _ => true) true Tryz.f4.params.toList args.toList ds p := hA0
 rw [Tryz.params4] at hA hval
 obtain ⟨v0, d0, rfl, rfl, h0⟩ := trodAll_one hA
 obtain ⟨rfl, rfl⟩ := trodVars_none hV
 have h0k := h0
 simp only [List.append_nil] at hW'
 have hlt : ∀ x ∈ p, x.block < W.heap.size := fun x hx => by simpa using hW'.lt x hx
 obtain ⟨s0, a0, c0, b0, o0, rfl, hm0, hS0, hw0, wa0, wb0, wc0⟩ := z2e (hval 0 24 v0 rfl rfl) h0
 have hL' : laidMetH Tryz.prog laidWss W := hL
 obtain ⟨pwk, hG⟩ := j2n hL'
 obtain ⟨perrs14, hE0⟩ := u0p hL'
 obtain ⟨perrs2, hE2⟩ := k1r hL'
 obtain ⟨perrs13, hE13⟩ := u0q hL'
 have hT := v0q hL'
 have hTab := k1q hL'
 refine (p1n (c := c0) hG hE0 hE2 hE13 hT hTab hS0 wc0.2.1 wc0.2.2).mono ?_
 rintro e W' ⟨rfl, bel⟩
 refine ⟨_, rfl, _, _, _, [], p, [], hW', ?_, ?_, ?_, bel.frame _, fun h => by cases h⟩
 · exact trodAll_mk1 (shut_bool Tryz.underlying4 _)
 · exact trodAll_mk1 (Below.trod q1i (by kernel_rfl) (of_decide_eq_true (by kernel_rfl)) h0k bel (fun x hx => hlt x (by simp [hx])))
 · rfl
theorem reads (os : Os) {H : Type} (enc : TypeId × Value -> H) : ∃ places, DataW.whole enc Tryz.prog ((laidWorldWss os).forCall (fun _ _ => 0) ⟨#[], #[.agg #[.int .i64 0, .int .i64 0, .int .i64 0, .slice none 0 0]], []⟩).memory Tryz.f4.params.toList Rows.weakStepsSpec.vars false (#[.agg #[.int .i64 0, .int .i64 0, .int .i64 0, .slice none 0 0]] : Array Value).toList 8 = some ([.agg [.lit (.int .i64 0), .lit (.int .i64 0), .lit (.int .i64 0), .nil]], [], places) :=
  ⟨[], by kernel_rfl⟩
theorem lifted (os : Os) (started : os.Started) (H : Type) (enc : TypeId × Value -> H) (F : Stop.Interp) :
    ReturnsInHanded {} Tryz.checked os 4 .any ((OpenSpec.ofChange Rows.weakStepsSpec).preRow enc Tryz.prog Tryz.f4 Rows.weakStepsRow.domain false Rows.weakStepsRow.laid) (((OpenSpec.ofChange Rows.weakStepsSpec).at F).post enc Tryz.prog Tryz.f4 false true false false) := by
 obtain ⟨places, hx⟩ := reads os enc
 refine returnsInHanded_of_row (C := Tryz.checked) (s := OpenSpec.ofChange Rows.weakStepsSpec) q1j started (by kernel_rfl) Tryz.func4
   (witness_row_atRef (enc := enc) (C := Tryz.checked) false (laidWorldWss os) #[.agg #[.int .i64 0, .int .i64 0, .int .i64 0, .slice none 0 0]] rfl (by kernel_rfl) (by kernel_rfl) (by kernel_rfl)
     (OpenSpec.preRow_of_cond 8 hx (by kernel_rfl) (fun k hk => by cases hk) (by kernel_rfl) (y1n os _))) ?_
 intro W base args ds gs before hval hW _ _ _ hL _ _
 exact contract H enc W base args ds gs before hval hW hL
theorem j1 : Tryz.pinned.checked.prog.unfollowed 4 = Rows.weakStepsRow.unfollowed := by kernel_rfl
theorem j2 : Tryz.pinned.checked.prog.recurses 4 = Rows.weakStepsRow.recurses := by kernel_rfl
theorem j3 : Tryz.pinned.checked.prog.inPlace 4 = Rows.weakStepsRow.inPlace := by kernel_rfl
theorem j4 : Tryz.pinned.checked.prog.varsNamed 4 = Rows.weakStepsRow.named := by kernel_rfl
theorem j5 : laidOutB Tryz.pinned.checked.prog = true := by kernel_rfl
theorem j6 : Tryz.pinned.checked.prog.plainKeys = Rows.weakStepsRow.plainKeys := by kernel_rfl
theorem j7 : Tryz.pinned.checked.prog.liftsFinal = Rows.weakStepsRow.lifted := by kernel_rfl
theorem j8 : mapsRowed Tryz.pinned.checked.prog = true := by kernel_rfl
theorem j9 : Tryz.pinned.checked.prog.stopsHeard = true := by kernel_rfl
theorem facts : joinedFacts Tryz.pinned.checked.prog 4 Tryz.f4 (OpenSpec.ofChange Rows.weakStepsSpec).bare Rows.weakStepsRow = true := by
 unfold joinedFacts
 rw [j1, j2, j3, j4, j5, j6, j7, j8, j9]
 kernel_rfl
theorem said : Rows.WeakStepsSaid :=
  OpenClaim.holds_of_cond 4 Tryz.f4 rfl rfl rfl rfl rfl rfl rfl ⟨rfl, rfl, rfl, rfl, rfl⟩ rfl rfl rfl rfl rfl (by kernel_rfl) Tryz.func4 facts
    (of_decide_eq_true (by kernel_rfl)) (by unfold Func.isWrapper; first | (rw [if_pos (by decide +kernel)]; kernel_rfl) | (rw [if_neg (by decide +kernel)]; exact ⟨rfl, rfl⟩))
    (fun os started H enc _ F => by rw [OpenClaim.pre_eq_preRow]; exact lifted os started H enc F)
theorem plain (f : FuncId) (fn : Func) (hf : Tryz.pinned.checked.prog.funcNamed "semblance/semblancelaw13.WeakSteps" = some f) (hfn : Tryz.pinned.checked.prog.funcs[f]? = some fn) :
    true = Tryz.pinned.checked.prog.looks [] /\ ∀ (j : Nat) t, fn.params[j]? = some t -> Tryz.pinned.checked.prog.wantsStandIn t = false := by
 obtain rfl : f = 4 := Option.some.inj ((show Tryz.prog.funcNamed "semblance/semblancelaw13.WeakSteps" = some 4 by kernel_rfl).symm.trans hf) |>.symm
 obtain rfl : fn = Tryz.f4 := (Option.some.inj (Tryz.func4.symm.trans hfn)).symm
 refine ⟨by kernel_rfl, fun j t ht => ?_⟩
 rw [Tryz.params4] at ht
 have hm := Array.mem_of_getElem? ht
 simp at hm
 subst hm
 exact (show Tryz.prog.wantsStandIn 24 = false by kernel_rfl)
theorem card : Rows.WeakStepsCardSaid :=
  Claim7.holds_tied_plain_at .later [] _ _ _ _ said (fun _ h => by cases h) (by kernel_rfl) (fun _ h => by cases h) weakSteps_row_tie rfl ⟨rfl, rfl⟩ (by kernel_rfl) rfl plain (by kernel_rfl)
end Go.Proofs.YtbaccmlfnbgehaaGreatDoor.weakSteps
