/-
  For all systems s and t (whatever their numbers and edges) semblancelaw14.QuotientUnions(s, t) returns true, and the edges of both read behind the call as they read before.
  Condition: when the call begins the package-level variables errors.errorType and all errors of semblance/api read as what their initialisers lay (the card ties them to the program's own text). No other condition.
-/
import Derived.Test.YtgikimbafakmcaaGreatDoorGLaidQun
import Derived.Test.YtgikimbafakmcaaGreatDoorLawQUn
set_option maxRecDepth 100000
namespace Go.Proofs.YtgikimbafakmcaaGreatDoor.quotientUnions
open Go.ChangeShapes Go.WideShapes Go.ChangeAt Go.RowKit
theorem contract (H : Type) (enc : TypeId × Value -> H) (W : World) (base : Nat) (args : Array Value) (ds gs : List (DataW H)) (before : List MemPlace)
    (hval : ∀ (j : Nat) t v, Tryz.f3.params[j]? = some t -> args[j]? = some v -> Value.okWide Tryz.prog W .any base t v)
    (hW : DataW.Whole enc Tryz.prog Tryz.f3.params.toList Rows.quotientUnionsSpec.vars false W args.toList ds gs before) (hL : laidMetH Tryz.prog Rows.quotientUnionsRow.laid W) :
    Calls Tryz.prog 3 args W fun e W' => ∃ v, e = .returned v /\ Rows.quotientUnionsSpec.post enc Tryz.prog Tryz.f3 false true false false W args v W' := by
 have hW' := hW
 obtain ⟨p, q, hA0, hV, rfl, hfz, hnd⟩ := hW
 have hA : DataW.TrodAll enc Tryz.prog W 0 (fun _ => true) true Tryz.f3.params.toList args.toList ds p := hA0
 rw [Tryz.params3] at hA hval
 obtain ⟨v0, v1, d0, d1, p0, p1, rfl, rfl, rfl, h0, h1⟩ := trodAll_two hA
 obtain ⟨rfl, rfl⟩ := trodVars_none hV
 have h0k := h0
 have h1k := h1
 simp only [List.append_nil] at hW'
 have hlt : ∀ x ∈ p0 ++ p1, x.block < W.heap.size := fun x hx => by simpa using hW'.lt x hx
 obtain ⟨s0, a0, c0, b0, o0, rfl, hm0, hS0, hw0, wa0, wb0, wc0⟩ := open_sys (hval 0 24 v0 rfl rfl) h0
 obtain ⟨s1, a1, c1, b1, o1, rfl, hm1, hS1, hw1, wa1, wb1, wc1⟩ := open_sys (hval 1 24 v1 rfl rfl) h1
 have hL' : laidMetH Tryz.prog laidQun W := hL
 obtain ⟨perrs14, hE0⟩ := laidQun_errs14 hL'
 obtain ⟨perrs3, hE3⟩ := laidQun_errs3 hL'
 have hT := laidQun_errType hL'
 refine (quoUni_any (c := c0) (c2 := c1) hE0 hE3 hT hS0 hS1).mono ?_
 rintro e W' ⟨rfl, bel⟩
 refine ⟨_, rfl, _, _, _, [], p0 ++ p1, [], hW', ?_, ?_, ?_, bel.frame _, fun h => by cases h⟩
 · exact trodAll_mk1 (shut_bool Tryz.underlying4 _)
 · exact trodAll_mk2 (Below.trod prog_laidOut (by kernel_rfl) (of_decide_eq_true (by kernel_rfl)) h0k bel (fun x hx => hlt x (by simp [hx]))) (Below.trod prog_laidOut (by kernel_rfl) (of_decide_eq_true (by kernel_rfl)) h1k bel (fun x hx => hlt x (by simp [hx])))
 · rfl
theorem reads (os : Os) {H : Type} (enc : TypeId × Value -> H) : ∃ places, DataW.whole enc Tryz.prog ((laidWorldQun os).forCall (fun _ _ => 0) ⟨#[], #[.agg #[.int .i64 0, .int .i64 0, .int .i64 0, .slice none 0 0], .agg #[.int .i64 0, .int .i64 0, .int .i64 0, .slice none 0 0]], []⟩).memory Tryz.f3.params.toList Rows.quotientUnionsSpec.vars false (#[.agg #[.int .i64 0, .int .i64 0, .int .i64 0, .slice none 0 0], .agg #[.int .i64 0, .int .i64 0, .int .i64 0, .slice none 0 0]] : Array Value).toList 8 = some ([.agg [.lit (.int .i64 0), .lit (.int .i64 0), .lit (.int .i64 0), .nil], .agg [.lit (.int .i64 0), .lit (.int .i64 0), .lit (.int .i64 0), .nil]], [], places) :=
  ⟨[], by kernel_rfl⟩
theorem lifted (os : Os) (started : os.Started) (H : Type) (enc : TypeId × Value -> H) (F : Stop.Interp) :
    ReturnsInHanded {} Tryz.checked os 3 .any ((OpenSpec.ofChange Rows.quotientUnionsSpec).preRow enc Tryz.prog Tryz.f3 Rows.quotientUnionsRow.domain false Rows.quotientUnionsRow.laid) (((OpenSpec.ofChange Rows.quotientUnionsSpec).at F).post enc Tryz.prog Tryz.f3 false true false false) := by
 obtain ⟨places, hx⟩ := reads os enc
 refine returnsInHanded_of_row (C := Tryz.checked) (s := OpenSpec.ofChange Rows.quotientUnionsSpec) ownKnob_none started (by kernel_rfl) Tryz.func3
   (witness_row_atRef (enc := enc) (C := Tryz.checked) false (laidWorldQun os) #[.agg #[.int .i64 0, .int .i64 0, .int .i64 0, .slice none 0 0], .agg #[.int .i64 0, .int .i64 0, .int .i64 0, .slice none 0 0]] rfl (by kernel_rfl) (by kernel_rfl) (by kernel_rfl)
     (OpenSpec.preRow_of_cond 8 hx (by kernel_rfl) (fun k hk => by cases hk) (by kernel_rfl) (laid_metQun os _))) ?_
 intro W base args ds gs before hval hW _ _ _ hL _ _
 exact contract H enc W base args ds gs before hval hW hL
theorem j1 : Tryz.pinned.checked.prog.unfollowed 3 = Rows.quotientUnionsRow.unfollowed := by kernel_rfl
theorem j2 : Tryz.pinned.checked.prog.recurses 3 = Rows.quotientUnionsRow.recurses := by kernel_rfl
theorem j3 : Tryz.pinned.checked.prog.inPlace 3 = Rows.quotientUnionsRow.inPlace := by kernel_rfl
theorem j4 : Tryz.pinned.checked.prog.varsNamed 3 = Rows.quotientUnionsRow.named := by kernel_rfl
theorem j5 : laidOutB Tryz.pinned.checked.prog = true := by kernel_rfl
theorem j6 : Tryz.pinned.checked.prog.plainKeys = Rows.quotientUnionsRow.plainKeys := by kernel_rfl
theorem j7 : Tryz.pinned.checked.prog.liftsFinal = Rows.quotientUnionsRow.lifted := by kernel_rfl
theorem j8 : mapsRowed Tryz.pinned.checked.prog = true := by kernel_rfl
theorem j9 : Tryz.pinned.checked.prog.stopsHeard = true := by kernel_rfl
theorem facts : joinedFacts Tryz.pinned.checked.prog 3 Tryz.f3 (OpenSpec.ofChange Rows.quotientUnionsSpec).bare Rows.quotientUnionsRow = true := by
 unfold joinedFacts
 rw [j1, j2, j3, j4, j5, j6, j7, j8, j9]
 kernel_rfl
theorem said : Rows.QuotientUnionsSaid :=
  OpenClaim.holds_of_cond 3 Tryz.f3 rfl rfl rfl rfl rfl rfl rfl ⟨rfl, rfl, rfl, rfl, rfl⟩ rfl rfl rfl rfl rfl (by kernel_rfl) Tryz.func3 facts
    (of_decide_eq_true (by kernel_rfl)) (by unfold Func.isWrapper; first | (rw [if_pos (by decide +kernel)]; kernel_rfl) | (rw [if_neg (by decide +kernel)]; exact ⟨rfl, rfl⟩))
    (fun os started H enc _ F => by rw [OpenClaim.pre_eq_preRow]; exact lifted os started H enc F)
theorem plain (f : FuncId) (fn : Func) (hf : Tryz.pinned.checked.prog.funcNamed "semblance/semblancelaw14.QuotientUnions" = some f) (hfn : Tryz.pinned.checked.prog.funcs[f]? = some fn) :
    true = Tryz.pinned.checked.prog.looks [] /\ ∀ (j : Nat) t, fn.params[j]? = some t -> Tryz.pinned.checked.prog.wantsStandIn t = false := by
 obtain rfl : f = 3 := Option.some.inj ((show Tryz.prog.funcNamed "semblance/semblancelaw14.QuotientUnions" = some 3 by kernel_rfl).symm.trans hf) |>.symm
 obtain rfl : fn = Tryz.f3 := (Option.some.inj (Tryz.func3.symm.trans hfn)).symm
 refine ⟨by kernel_rfl, fun j t ht => ?_⟩
 rw [Tryz.params3] at ht
 have hm := Array.mem_of_getElem? ht
 simp at hm
 subst hm
 exact (show Tryz.prog.wantsStandIn 24 = false by kernel_rfl)
theorem card : Rows.QuotientUnionsCardSaid :=
  Claim7.holds_tied_plain_at .later [] _ _ _ _ said (fun _ h => by cases h) (by kernel_rfl) (fun _ h => by cases h) quotientUnions_row_tie rfl ⟨rfl, rfl⟩ (by kernel_rfl) rfl plain (by kernel_rfl)
end Go.Proofs.YtgikimbafakmcaaGreatDoor.quotientUnions
