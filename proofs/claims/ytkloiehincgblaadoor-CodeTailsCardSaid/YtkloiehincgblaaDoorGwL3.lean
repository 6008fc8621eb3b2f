/- The row of CodeTails, out of what its plain function answers. -/
import Derived.Test.YtkloiehincgblaaDoorGwClose
import Derived.Test.YtkloiehincgblaaDoorGwC4
import Derived.Test.YtkloiehincgblaaDoorGwP26
import Derived.Test.YtkloiehincgblaaDoorRows
import Derived.Test.YtkloiehincgblaaDoorCards
import Derived.Test.YtkloiehincgblaaDoorTie
import Derived.SevenTiedAt
namespace Go.Proofs.YtkloiehincgblaaDoor
open Go Go.Gw Go.ChangeShapes Go.WideShapes Go.RowKit Go.Stop

theorem own : ownKnob Tryd.prog.godebug = none := by kernel_rfl
theorem laidOut : laidOutB Tryd.prog = true := by kernel_rfl
theorem cells298 : Tryd.prog.cellsOf 314 = 1 := by kernel_rfl
theorem cells9 : Tryd.prog.cellsOf 9 = 1 := by kernel_rfl
theorem cells5 : Tryd.prog.cellsOf 5 = 1 := by kernel_rfl
theorem star : "*" ++ "errors.errorString" = "*errors.errorString" := by decide
theorem row298 (u : TypeId) (h : Tryd.prog.typeName? 3 u = some "*errors.errorString") : u = 298 :=
  typeName_ptr_named (nm := "errors.errorString") (by rw [star]; kernel_rfl) (by kernel_rfl) (by decide) u (by rw [star]; exact h)
theorem gEnd : Tryd.prog.globalNamed "gristmill/api.ErrEnd" = some 0 := by kernel_rfl
theorem gShape : Tryd.prog.globalNamed "gristmill/api.ErrShape" = some 1 := by kernel_rfl
theorem gRange : Tryd.prog.globalNamed "gristmill/api.ErrRange" = some 2 := by kernel_rfl
theorem tEnd : (Tryd.prog.globals[0]?).map (·.type) = some 26 := by kernel_rfl
theorem tShape : (Tryd.prog.globals[1]?).map (·.type) = some 26 := by kernel_rfl
theorem tRange : (Tryd.prog.globals[2]?).map (·.type) = some 26 := by kernel_rfl

theorem door_met (os : Os) (args : Array Value) : laidMetH Tryd.prog Rows.codeTailsRow.laid ((World.doorLaid Tryd.prog 400 os).forCall (fun _ _ => 0) ⟨#[], args, []⟩).memory :=
  laidMetH_of_parts3 (fuel := 8) (laidMet_of_run' 8 (by kernel_rfl) (by kernel_rfl)) (by kernel_rfl) (by kernel_rfl)

theorem errs {W : World} (h : laidMetH Tryd.prog Rows.codeTailsRow.laid W) : ∃ ad : Nat → Addr, ∀ g, g < 3 → W.cell? ⟨g, 0, none⟩ = some (.iface 298 (.pointer (some (ad g)))) := by
  rw [MakeChecks.laidMetH_plain _ _ _ (by kernel_rfl)] at h
  obtain ⟨a0, h0⟩ := laid_cell gEnd tEnd Tryd.underlying26 row298 Tryd.underlying298 Tryd.underlying314 rfl rfl Tryd.underlying9 cells298 cells9 h (List.mem_cons_self)
  obtain ⟨a1, h1⟩ := laid_cell gShape tShape Tryd.underlying26 row298 Tryd.underlying298 Tryd.underlying314 rfl rfl Tryd.underlying9 cells298 cells9 h (List.mem_cons_of_mem _ List.mem_cons_self)
  obtain ⟨a2, h2⟩ := laid_cell gRange tRange Tryd.underlying26 row298 Tryd.underlying298 Tryd.underlying314 rfl rfl Tryd.underlying9 cells298 cells9 h (List.mem_cons_of_mem _ (List.mem_cons_of_mem _ List.mem_cons_self))
  refine ⟨fun g => match g with | 0 => a0 | 1 => a1 | _ => a2, fun g hg => ?_⟩
  match g, hg with
  | 0, _ => exact h0
  | 1, _ => exact h1
  | 2, _ => exact h2

set_option maxRecDepth 100000 in
theorem lifted (os : Os) (started : os.Started) (H : Type) (enc : TypeId × Value → H) :
    ReturnsInHanded {} Tryd.checked os 3 .any (fun w args => (Rows.codeTailsSpec.pre enc Tryd.prog Tryd.f3 [] false w args ∧ laidMetH Tryd.prog Rows.codeTailsRow.laid w) ∧ sizedMet enc Tryd.prog Tryd.f3 (OpenSpec.ofChange Rows.codeTailsSpec) false w args)
      (Rows.codeTailsSpec.post enc Tryd.prog Tryd.f3 false true false false) := by
  refine returnsInHanded_of_change_and (C := Tryd.checked) (X := fun w _ => laidMetH Tryd.prog Rows.codeTailsRow.laid w) (fun _ _ _ hh h => h.of_heap hh) own started (by kernel_rfl) Tryd.func3
    (ChangeSpec.witness_shaped (enc := enc) (C := Tryd.checked) (os := os) (X := fun w _ => laidMetH Tryd.prog Rows.codeTailsRow.laid w) false (World.doorLaid Tryd.prog 400 os) #[.slice none 0 0, .slice none 0 0, .int .i64 0] 8 rfl (World.shaped_of_RefB (by kernel_rfl) (by kernel_rfl)) (by kernel_rfl) (by kernel_rfl) (by kernel_rfl) (door_met os _)) ?_
  intro W base args ds gs before hval0 hW _ _ hL _
  have hval : ∀ (j : Nat) t v, Tryd.f3.params[j]? = some t → args[j]? = some v → Value.okWide Tryd.prog W .any base t v := hval0
  have hW' := hW
  obtain ⟨p, q, hA0, hV, rfl, hfz, hnd⟩ := hW
  have hA : DataW.TrodAll enc Tryd.prog W 0 (fun _ => true) true Tryd.f3.params.toList args.toList ds p := hA0
  rw [Tryd.params3] at hA hval
  obtain ⟨v0, v1, v2, d0, d1, d2, p0, p1, p2, rfl, rfl, rfl, h0, h1, h2⟩ := trodAll_three hA
  obtain ⟨rfl, rfl⟩ := trodVars_none hV
  have rs : ∀ n, Rd enc Tryd.prog W n 22 (slA 1 u8A) := fun n => rd_slice Tryd.underlying22 cells5 (by omega) (fun m _ => rd_u8 Tryd.underlying5)
  obtain ⟨x, hx⟩ := arg_slice (f := u8A) (e := 1) Tryd.underlying22 rs (hval 0 22 v0 rfl rfl) h0
  obtain ⟨y, hy⟩ := arg_slice (f := u8A) (e := 1) Tryd.underlying22 rs (hval 1 22 v1 rfl rfl) h1
  obtain ⟨z, hz, _⟩ := arg_int Tryd.underlying3 (hval 2 3 v2 rfl rfl) h2
  obtain ⟨ad, hg⟩ := errs hL
  letI : ErrC := ⟨298, 130, ad⟩
  have hc : ∀ τ, GL gls τ → CMH Tryd.prog 3 [slA 1 u8A x, slA 1 u8A y, iA z] [.frm τ] (Ret1 (.sc (.bool true)) [] τ) := fun τ hτ => c3 (codeTails_plain x y z) τ hτ
  have hrun := run_law hc (W := W) (vs := [v0, v1, v2]) (by intro p hp; simp only [gls, List.mem_cons, List.not_mem_nil, or_false] at hp; rcases hp with rfl | rfl | rfl <;> rfl)
    (by
      intro p hp
      simp only [gls, List.mem_cons, List.not_mem_nil, or_false] at hp
      rcases hp with rfl | rfl | rfl
      · exact ⟨_, hg 0 (by omega), R_sc_mk _⟩
      · exact ⟨_, hg 1 (by omega), R_sc_mk _⟩
      · exact ⟨_, hg 2 (by omega), R_sc_mk _⟩) (by simp only [RL]; exact ⟨v0, _, rfl, hx, v1, _, rfl, hy, v2, [], rfl, hz, rfl⟩)
  refine hrun.mono fun e W' ⟨he, hl⟩ => ?_
  subst he
  refine ⟨_, rfl, post_law rfl hW' rfl (by kernel_rfl) Tryd.underlying4 hl fun hs hlt => ?_⟩
  rw [Tryd.params3]
  rw [List.append_assoc]
  exact trodAll_mk3 (WideElems.Trod_stays (sp' := fun b => decide (b < W.heap.size)) laidOut (by kernel_rfl) (of_decide_eq_true (by kernel_rfl)) h0 (fun x hx => hs x (by simp [hx])) (fun x hx => decide_eq_true (hlt x (by simp [hx]))))
    (WideElems.Trod_stays (sp' := fun b => decide (b < W.heap.size)) laidOut (by kernel_rfl) (of_decide_eq_true (by kernel_rfl)) h1 (fun x hx => hs x (by simp [hx])) (fun x hx => decide_eq_true (hlt x (by simp [hx]))))
    (WideElems.Trod_stays (sp' := fun b => decide (b < W.heap.size)) laidOut (by kernel_rfl) (of_decide_eq_true (by kernel_rfl)) h2 (fun x hx => hs x (by simp [hx])) (fun x hx => decide_eq_true (hlt x (by simp [hx]))))

theorem codeTails_holds : Rows.CodeTailsSaid :=
  OpenClaim.holds_of_wide 3 Tryd.f3 rfl rfl rfl rfl rfl rfl rfl ⟨rfl, rfl, rfl, rfl, rfl⟩ rfl rfl rfl rfl rfl (by kernel_rfl) Tryd.func3 (by kernel_rfl)
    (of_decide_eq_true (by kernel_rfl)) (by unfold Func.isWrapper; first | (rw [if_pos (by decide +kernel)]; kernel_rfl) | (rw [if_neg (by decide +kernel)]; exact ⟨rfl, rfl⟩))
    (fun os started H enc _ => lifted os started H enc)

theorem codeTails_card : Rows.CodeTailsCardSaid :=
  Claim7.holds_tied_plain_at .later [] [.sentinel, .sentinel, .sentinel] true (true, "94616bfe2d6c78d0ed8a4206cdeafd405193b2d963aec8ee3959d142bbfcc430") true
    codeTails_holds (fun _ h => by cases h) (by kernel_rfl) (fun _ h => by cases h) codeTails_row_tie rfl ⟨rfl, rfl⟩ (by kernel_rfl) rfl
    (fun f fn hf hfn => by
      obtain rfl : f = 3 := Option.some.inj ((show Tryd.prog.funcNamed "gristmill/gristmilllaw23.CodeTails" = some 3 by kernel_rfl).symm.trans hf) |>.symm
      obtain rfl : fn = Tryd.f3 := (Option.some.inj (Tryd.func3.symm.trans hfn)).symm
      exact ⟨by kernel_rfl, fun j t ht => by
        rw [Tryd.params3] at ht
        have hm : t ∈ [22, 22, 3] := by simpa using Array.mem_of_getElem? ht
        have hall : ([22, 22, 3].all fun u => !Tryd.prog.wantsStandIn u) = true := by kernel_rfl
        exact (show Tryd.prog.wantsStandIn t = false by simpa using List.all_eq_true.1 hall t hm)⟩)
    (by kernel_rfl)
#print axioms codeTails_card
end Go.Proofs.YtkloiehincgblaaDoor
