/- 'TreeSame' of layer 10: whatever two programs are (of bulk at most 1048576): the law answers true, and they read as they did. -/
import Derived.Test.YtnifjgdhgnmhmaaGreatDoorM9
import Derived.Test.YtnifjgdhgnmhmaaGreatDoorM8
namespace Go.Proofs.YtnifjgdhgnmhmaaGreatDoor
open Go Go.X Go.ChangeShapes Go.WideShapes
namespace treeSame
set_option maxRecDepth 100000

theorem contract (H : Type) (enc : TypeId × Value → H) (W : World) (base : Nat) (args : Array Value) (ds gs : List (DataW H)) (before : List MemPlace)
    (hval : ∀ (j : Nat) t v, Tryz.f9.params[j]? = some t → args[j]? = some v → Value.okWide Tryz.prog W .any base t v)
    (hW : DataW.Whole enc Tryz.prog Tryz.f9.params.toList Rows.treeSameSpec.vars false W args.toList ds gs before) (hL : laidMetH Tryz.prog Rows.treeSameUptoRow.laid W)
    (hk : Rows.uptoBulkAll (ds ++ gs) ≤ 1048576) :
    Calls Tryz.prog 9 args W fun e W' => ∃ v, e = .returned v ∧ Rows.treeSameSpec.post enc Tryz.prog Tryz.f9 false true false false W args v W' := by
  have hW' := hW
  obtain ⟨p, q, hA0, hV, rfl, hfz, hnd⟩ := hW
  have hA : DataW.TrodAll enc Tryz.prog W 0 (fun _ => true) true Tryz.f9.params.toList args.toList ds p := hA0
  obtain ⟨rfl, rfl⟩ := trodVars_none hV
  rw [Tryz.params9] at hA hval
  obtain ⟨v0, v1, d0, d1, p0, p1, rfl, rfl, rfl, h0, h1⟩ := trodAll_two hA
  obtain ⟨q0, r0, z0⟩ := pr_arg (hval 0 66 v0 rfl rfl) h0
  obtain ⟨q1, r1, z1⟩ := pr_arg (hval 1 66 v1 rfl rfl) h1
  simp only [Rows.uptoBulkAll, List.append_nil, List.cons_append, List.nil_append] at hk
  obtain ⟨n, K, hrun⟩ := law9 q0 q1 (by omega) (by omega)
  obtain ⟨_, hiso⟩ := iso_of_run mixed fnsTE oraTE (f := 9) rfl n hrun
  have hc := hiso (fun B => W.heap[B]?) W [v0, v1] (fun _ _ h => h) (globTE hL rfl) (relL_cons r0 (relL_one r1))
  refine hc.mono fun e W' ⟨v, he, hcalm, hold, hr⟩ => ?_
  obtain rfl : v = .bool true := hr
  exact ⟨_, he, post_law kids full rfl (by rw [Tryz.params9]; decide +kernel) (tb := 4) (by kernel_rfl) Tryz.underlying4 rfl hW' hcalm hold⟩

theorem laid_met (os : Os) : laidMet Tryz.prog Rows.treeSameUptoRow.laid ((laidWorld os).forCall (fun _ _ => 0) ⟨#[], #[noProgram, noProgram], []⟩).memory :=
  laidMet_of_run' 8 (by kernel_rfl) (by kernel_rfl)
theorem laid_metH (os : Os) : laidMetH Tryz.prog Rows.treeSameUptoRow.laid ((laidWorld os).forCall (fun _ _ => 0) ⟨#[], #[noProgram, noProgram], []⟩).memory := laid_met os
theorem reads (os : Os) {H : Type} (enc : TypeId × Value → H) : ∃ places, DataW.whole enc Tryz.prog ((laidWorld os).forCall (fun _ _ => 0) ⟨#[], #[noProgram, noProgram], []⟩).memory Tryz.f9.params.toList Rows.treeSameSpec.vars false #[noProgram, noProgram].toList 8 =
    some ([.agg [.lit (.int .i64 0), .nil, .nil, .nil], .agg [.lit (.int .i64 0), .nil, .nil, .nil]], [], places) :=
  ⟨[], by kernel_rfl⟩

theorem own : ownKnob Tryz.prog.godebug = none := by kernel_rfl

set_option maxRecDepth 100000 in
theorem liftedUpto (os : Os) (started : os.Started) (H : Type) (enc : TypeId × Value → H) (F : Stop.Interp) :
    ReturnsInHanded {} Tryz.checked os 9 .any ((Rows.OpenSpec.upto Rows.treeSameSpec).preRow enc Tryz.prog Tryz.f9 Rows.treeSameUptoRow.domain false Rows.treeSameUptoRow.laid) (((Rows.OpenSpec.upto Rows.treeSameSpec).at F).post enc Tryz.prog Tryz.f9 false true false false) := by
  obtain ⟨places, hx⟩ := reads os enc
  refine returnsInHanded_of_row (C := Tryz.checked) (s := Rows.OpenSpec.upto Rows.treeSameSpec) own started (by kernel_rfl) Tryz.func9
    (witness_row_at (enc := enc) (C := Tryz.checked) false (laidWorld os) #[noProgram, noProgram] rfl (by kernel_rfl) (by kernel_rfl) (by kernel_rfl)
      (OpenSpec.preRow_of_cond 8 hx (by kernel_rfl) (fun k hk => by cases hk; kernel_rfl) (by kernel_rfl) (laid_metH os))) ?_
  intro W base args ds gs before hval hW _ hcond _ hL _ _
  exact contract H enc W base args ds gs before hval hW hL (of_decide_eq_true (hcond _ rfl))

theorem saidUpto : Rows.TreeSameUptoSaid :=
  OpenClaim.holds_of_cond 9 Tryz.f9 rfl rfl rfl rfl rfl rfl rfl ⟨rfl, rfl, rfl, rfl, rfl⟩ rfl rfl rfl rfl rfl (by kernel_rfl) Tryz.func9 (by kernel_rfl)
    (of_decide_eq_true (by kernel_rfl)) (by unfold Func.isWrapper; first | (rw [if_pos (by decide +kernel)]; kernel_rfl) | (rw [if_neg (by decide +kernel)]; exact ⟨rfl, rfl⟩))
    (fun os started H enc _ F => by rw [OpenClaim.pre_eq_preRow]; exact liftedUpto os started H enc F)

theorem plain (f : FuncId) (fn : Func) (hf : Tryz.pinned.checked.prog.funcNamed "flyball/flyballlaw10.TreeSame" = some f) (hfn : Tryz.pinned.checked.prog.funcs[f]? = some fn) :
    true = Tryz.pinned.checked.prog.looks [] ∧ ∀ (j : Nat) t, fn.params[j]? = some t → Tryz.pinned.checked.prog.wantsStandIn t = false := by
  obtain rfl : f = 9 := Option.some.inj ((show Tryz.prog.funcNamed "flyball/flyballlaw10.TreeSame" = some 9 by kernel_rfl).symm.trans hf) |>.symm
  obtain rfl : fn = Tryz.f9 := (Option.some.inj (Tryz.func9.symm.trans hfn)).symm
  refine ⟨by kernel_rfl, fun j t ht => ?_⟩
  rw [Tryz.params9] at ht
  obtain rfl : t = 66 := by simpa using Array.mem_of_getElem? ht
  exact (show Tryz.prog.wantsStandIn 66 = false by kernel_rfl)

end treeSame
/-- ████ THE SECOND FORM's CARD ████ -/
theorem treeSame_cardUpto : Rows.TreeSameUptoCardSaid :=
  Claim7.holds_tied_plain_at .later [] _ _ _ _ treeSame.saidUpto (fun _ h => by cases h) (by kernel_rfl) (fun _ h => by cases h) treeSameUpto_row_tie rfl ⟨rfl, rfl⟩ (by kernel_rfl) rfl treeSame.plain (by kernel_rfl)
end Go.Proofs.YtnifjgdhgnmhmaaGreatDoor
