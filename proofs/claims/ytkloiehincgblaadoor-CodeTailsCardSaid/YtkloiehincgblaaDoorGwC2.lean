/- Part of the proof: GwC2. -/
import Derived.Test.YtkloiehincgblaaDoorGwC1
import Derived.Test.YtkloiehincgblaaDoorProg
import Derived.KernelRfl
set_option linter.unusedSimpArgs false
set_option linter.unusedVariables false
set_option maxRecDepth 100000
set_option maxHeartbeats 4000000
namespace Go.Gw
open Go.Proofs Go.Gw
def p118 : CCode → CIns → Option Int
| v1, v2 =>
if (decide (v2.op = 1)) then
if (decide (v2.tag < (v1.tags.length : Int))) then
(at? v1.tags v2.tag) >>= fun v7 =>
(p150 v1 v7) >>= fun v8 =>
some v8
else
some (-1)
else
if (decide (v2.op = 4)) then
if (decide (v2.fn < (v1.funs.length : Int))) then
(at? v1.funs v2.fn) >>= fun v10 =>
some v10.params
else
some (-1)
else
if (decide (v2.op = 2)) then
if (decide (v2.op = 2)) then
some 1
else
if (decide (v2.op = 3)) then
some 2
else
if (decide (v2.op = 6)) then
some (if 2 < (v2.vals.length : Int) then (v2.vals.length : Int) else 2)
else
if (decide (v2.op = 7)) then
(p151 v2.prim) >>= fun v12 =>
if (decide (0 < v12)) then
some v12
else
some (-1)
else
if (decide (v2.op = 10)) then
some 0
else
some (-1)
else
if (decide (v2.op = 5)) then
if (decide (v2.op = 5)) then
some 1
else
if (decide (v2.op = 3)) then
some 2
else
if (decide (v2.op = 6)) then
some (if 2 < (v2.vals.length : Int) then (v2.vals.length : Int) else 2)
else
if (decide (v2.op = 7)) then
(p151 v2.prim) >>= fun v14 =>
if (decide (0 < v14)) then
some v14
else
some (-1)
else
if (decide (v2.op = 10)) then
some 0
else
some (-1)
else
if (decide (v2.op = 8)) then
if (decide (v2.op = 8)) then
some 1
else
if (decide (v2.op = 3)) then
some 2
else
if (decide (v2.op = 6)) then
some (if 2 < (v2.vals.length : Int) then (v2.vals.length : Int) else 2)
else
if (decide (v2.op = 7)) then
(p151 v2.prim) >>= fun v16 =>
if (decide (0 < v16)) then
some v16
else
some (-1)
else
if (decide (v2.op = 10)) then
some 0
else
some (-1)
else
if (decide (v2.op = 12)) then
if (decide (v2.op = 12)) then
some 1
else
if (decide (v2.op = 3)) then
some 2
else
if (decide (v2.op = 6)) then
some (if 2 < (v2.vals.length : Int) then (v2.vals.length : Int) else 2)
else
if (decide (v2.op = 7)) then
(p151 v2.prim) >>= fun v18 =>
if (decide (0 < v18)) then
some v18
else
some (-1)
else
if (decide (v2.op = 10)) then
some 0
else
some (-1)
else
if (decide (v2.op = 9)) then
if (decide (v2.op = 9)) then
some 1
else
if (decide (v2.op = 3)) then
some 2
else
if (decide (v2.op = 6)) then
some (if 2 < (v2.vals.length : Int) then (v2.vals.length : Int) else 2)
else
if (decide (v2.op = 7)) then
(p151 v2.prim) >>= fun v20 =>
if (decide (0 < v20)) then
some v20
else
some (-1)
else
if (decide (v2.op = 10)) then
some 0
else
some (-1)
else
if (decide (v2.op = 11)) then
some 1
else
if (decide (v2.op = 3)) then
some 2
else
if (decide (v2.op = 6)) then
some (if 2 < (v2.vals.length : Int) then (v2.vals.length : Int) else 2)
else
if (decide (v2.op = 7)) then
(p151 v2.prim) >>= fun v22 =>
if (decide (0 < v22)) then
some v22
else
some (-1)
else
if (decide (v2.op = 10)) then
some 0
else
some (-1)
theorem c118 [ErrC] {v1 : CCode} {v2 : CIns} {r : Int} (h : p118 v1 v2 = some r) (τ : Store) : CMH Tryd.prog 118 [.ref (CCode.A v1) 0, .agg [iA v2.op, iA v2.to, iA v2.tag, iA v2.fn, iA v2.n, sA v2.prim, slA 2 CVal.A v2.vals, slA 4 CAlt.A v2.alts]] [.frm τ] (Ret1 (iA r) [] τ) := by
  rw [p118.eq_1] at h
  refine ch_enter Tryd.func118 rfl Tryd.ntmps118 rfl ?_
  refine wmh_seq ?_
  refine wmh_region ?_
  refine wh_l rfl rfl (oh_box (n := 8) rfl rfl rfl (fun k4 => ?_))
  refine wh_q rfl rfl (q_assign rfl) ?_
  refine wh_nil ?_
  refine wmh_seq ?_
  refine wmh_seq ?_
  refine wmh_region ?_
  refine wh_q rfl rfl (q_fieldAddr_own fl105_0 rfl) ?_
  refine wh_q rfl rfl (q_load_own ty3 rfl (i := 0) rfl rfl) ?_
  refine wh_nil ?_
  refine wmh_block ?_
  refine wmh_seq ?_
  refine wmh_region ?_
  refine wh_q rfl rfl (q_bin rfl rfl rfl) ?_
  refine wh_q rfl rfl (q_assign rfl) ?_
  refine wh_nil ?_
  refine wmh_ite rfl h (fun hc0 h => ?_) (fun hc0 h => ?_)
  · refine wmh_seq ?_
    refine wmh_drawn _ [] [0, 1, 2, 3, 4, 5, 6, 7] mixed (by kernel_rfl) (sub_cuts (is := [0]) rfl) ?_
    refine vh_q rfl rfl rfl rfl (q_fieldAddr_own fl105_2 rfl) ?_
    refine vh_q rfl rfl rfl rfl (q_load_own ty3 rfl (i := 0) rfl rfl) ?_
    refine vh_q rfl rfl rfl rfl (q_move rfl) ?_
    refine vh_q rfl rfl rfl rfl (q_nilCheck_ref rfl) ?_
    refine vh_q rfl rfl rfl rfl (q_fieldAddr_ref fl96_0 rfl) ?_
    refine vh_q rfl rfl rfl rfl (q_load_ref ty92 rfl rfl rfl) ?_
    refine vh_q rfl rfl rfl rfl (q_len_slA Tryd.underlying92 rfl) ?_
    refine vh_q rfl rfl rfl rfl (q_bin rfl rfl rfl) ?_
    refine vh_nil ?_
    refine wmh_ite rfl h (fun hc1 h => ?_) (fun hc1 h => ?_)
    · refine wmh_seq ?_
      refine wmh_drawn _ [9] [0, 1, 2, 3, 4, 5, 6, 7, 8, 9, 10] mixed (by kernel_rfl) (sub_cuts (is := [0]) rfl) ?_
      refine vh_q rfl rfl rfl rfl (q_move rfl) ?_
      refine vh_q rfl rfl rfl rfl (q_move rfl) ?_
      refine vh_q rfl rfl rfl rfl (q_nilCheck_ref rfl) ?_
      refine vh_q rfl rfl rfl rfl (q_fieldAddr_ref fl96_0 rfl) ?_
      refine vh_q rfl rfl rfl rfl (q_load_ref ty92 rfl rfl rfl) ?_
      refine vh_q rfl rfl rfl rfl (q_fieldAddr_own fl105_2 rfl) ?_
      refine vh_q rfl rfl rfl rfl (q_load_own ty3 rfl (i := 0) rfl rfl) ?_
      obtain ⟨v7, hb4, h⟩ := obind h
      refine vh_q rfl rfl rfl rfl (q_index el92 rfl rfl hb4) ?_
      refine vh_q rfl rfl rfl rfl (q_load_ref ty98 rfl rfl (pick_all rfl)) ?_
      obtain ⟨v8, hb5, h⟩ := obind h
      refine vh_l rfl rfl rfl rfl (oh_call1 [] fn150 rfl rfl (fun τ hτ => c150 hb5 τ) ⟨.inr (sub_cuts (is := [0]) rfl), ?_⟩)
      refine vh_q rfl rfl rfl rfl (q_assign rfl) ?_
      refine vh_nil ?_
      refine wmh_ret ?_
      obtain rfl := (some_inj h).symm
      exact ⟨_, _, rh_one rfl rfl, sub_cuts (is := [1]) rfl, rfl, rfl⟩
    · refine wmh_skip ?_
      refine wmh_seq ?_
      refine wmh_region ?_
      refine wh_q rfl rfl (q_assign rfl) ?_
      refine wh_nil ?_
      refine wmh_ret ?_
      obtain rfl := (some_inj h).symm
      exact ⟨_, _, rh_one rfl rfl, sub_cuts (is := [1]) rfl, rfl, rfl⟩
  · refine wmh_seq ?_
    refine wmh_region ?_
    refine wh_q rfl rfl (q_bin rfl rfl rfl) ?_
    refine wh_q rfl rfl (q_assign rfl) ?_
    refine wh_nil ?_
    refine wmh_ite rfl h (fun hc6 h => ?_) (fun hc6 h => ?_)
    · refine wmh_seq ?_
      refine wmh_drawn _ [] [0, 1, 2, 3, 4, 5, 6, 7] mixed (by kernel_rfl) (sub_cuts (is := [0]) rfl) ?_
      refine vh_q rfl rfl rfl rfl (q_fieldAddr_own fl105_3 rfl) ?_
      refine vh_q rfl rfl rfl rfl (q_load_own ty3 rfl (i := 0) rfl rfl) ?_
      refine vh_q rfl rfl rfl rfl (q_move rfl) ?_
      refine vh_q rfl rfl rfl rfl (q_nilCheck_ref rfl) ?_
      refine vh_q rfl rfl rfl rfl (q_fieldAddr_ref fl96_1 rfl) ?_
      refine vh_q rfl rfl rfl rfl (q_load_ref ty93 rfl rfl rfl) ?_
      refine vh_q rfl rfl rfl rfl (q_len_slA Tryd.underlying93 rfl) ?_
      refine vh_q rfl rfl rfl rfl (q_bin rfl rfl rfl) ?_
      refine vh_nil ?_
      refine wmh_ite rfl h (fun hc7 h => ?_) (fun hc7 h => ?_)
      · refine wmh_seq ?_
        refine wmh_drawn _ [] [0, 1, 2, 3, 4, 5, 6, 7, 8, 9] mixed (by kernel_rfl) (sub_cuts (is := [0]) rfl) ?_
        refine vh_q rfl rfl rfl rfl (q_move rfl) ?_
        refine vh_q rfl rfl rfl rfl (q_nilCheck_ref rfl) ?_
        refine vh_q rfl rfl rfl rfl (q_fieldAddr_ref fl96_1 rfl) ?_
        refine vh_q rfl rfl rfl rfl (q_load_ref ty93 rfl rfl rfl) ?_
        refine vh_q rfl rfl rfl rfl (q_fieldAddr_own fl105_3 rfl) ?_
        refine vh_q rfl rfl rfl rfl (q_load_own ty3 rfl (i := 0) rfl rfl) ?_
        obtain ⟨v10, hb9, h⟩ := obind h
        refine vh_q rfl rfl rfl rfl (q_index el93 rfl rfl hb9) ?_
        refine vh_q rfl rfl rfl rfl (q_fieldAddr_ref fl101_0 rfl) ?_
        refine vh_q rfl rfl rfl rfl (q_load_ref ty3 rfl rfl rfl) ?_
        refine vh_q rfl rfl rfl rfl (q_assign rfl) ?_
        refine vh_nil ?_
        refine wmh_ret ?_
        obtain rfl := (some_inj h).symm
        exact ⟨_, _, rh_one rfl rfl, sub_cuts (is := [1]) rfl, rfl, rfl⟩
      · refine wmh_skip ?_
        refine wmh_seq ?_
        refine wmh_region ?_
        refine wh_q rfl rfl (q_assign rfl) ?_
        refine wh_nil ?_
        refine wmh_ret ?_
        obtain rfl := (some_inj h).symm
        exact ⟨_, _, rh_one rfl rfl, sub_cuts (is := [1]) rfl, rfl, rfl⟩
    · refine wmh_seq ?_
      refine wmh_seq ?_
      refine wmh_region ?_
      refine wh_q rfl rfl (q_bin rfl rfl rfl) ?_
      refine wh_q rfl rfl (q_assign rfl) ?_
      refine wh_nil ?_
      refine wmh_ite rfl h (fun hc10 h => ?_) (fun hc10 h => ?_)
      · refine wmh_skip ?_
        refine wmh_ite rfl h (fun hc11 h => ?_) (fun hc11 h => ?_)
        · refine wmh_seq ?_
          refine wmh_region ?_
          refine wh_q rfl rfl (q_assign rfl) ?_
          refine wh_nil ?_
          refine wmh_ret ?_
          obtain rfl := (some_inj h).symm
          exact ⟨_, _, rh_one rfl rfl, sub_cuts (is := [1]) rfl, rfl, rfl⟩
        · refine wmh_seq ?_
          refine wmh_region ?_
          refine wh_q rfl rfl (q_bin rfl rfl rfl) ?_
          refine wh_q rfl rfl (q_assign rfl) ?_
          refine wh_nil ?_
          refine wmh_ite rfl h (fun hc12 h => ?_) (fun hc12 h => ?_)
          · refine wmh_seq ?_
            refine wmh_region ?_
            refine wh_q rfl rfl (q_assign rfl) ?_
            refine wh_nil ?_
            refine wmh_ret ?_
            obtain rfl := (some_inj h).symm
            exact ⟨_, _, rh_one rfl rfl, sub_cuts (is := [1]) rfl, rfl, rfl⟩
          · refine wmh_seq ?_
            refine wmh_region ?_
            refine wh_q rfl rfl (q_bin rfl rfl rfl) ?_
            refine wh_q rfl rfl (q_assign rfl) ?_
            refine wh_nil ?_
            refine wmh_ite rfl h (fun hc13 h => ?_) (fun hc13 h => ?_)
            · refine wmh_seq ?_
              refine wmh_region ?_
              refine wh_q rfl rfl (q_fieldAddr_own fl105_6 rfl) ?_
              refine wh_q rfl rfl (q_load_own ty102 rfl (i := 0) rfl rfl) ?_
              refine wh_q rfl rfl (q_len_slA Tryd.underlying102 rfl) ?_
              refine wh_q rfl rfl (q_max rfl rfl) ?_
              refine wh_q rfl rfl (q_assign rfl) ?_
              refine wh_nil ?_
              refine wmh_ret ?_
              obtain rfl := (some_inj h).symm
              exact ⟨_, _, rh_one rfl rfl, sub_cuts (is := [1]) rfl, rfl, rfl⟩
            · refine wmh_seq ?_
              refine wmh_region ?_
              refine wh_q rfl rfl (q_bin rfl rfl rfl) ?_
              refine wh_q rfl rfl (q_assign rfl) ?_
              refine wh_nil ?_
              refine wmh_ite rfl h (fun hc14 h => ?_) (fun hc14 h => ?_)
              · refine wmh_seq ?_
                refine wmh_region ?_
                refine wh_q rfl rfl (q_fieldAddr_own fl105_5 rfl) ?_
                refine wh_q rfl rfl (q_load_own ty9 rfl (i := 0) rfl rfl) ?_
                obtain ⟨v12, hb16, h⟩ := obind h
                refine wh_l rfl rfl (oh_call1 [] fn151 rfl rfl (fun τ hτ => c151 hb16 τ) ?_)
                refine wh_q rfl rfl (q_assign rfl) ?_
                refine wh_nil ?_
                refine wmh_seq ?_
                refine wmh_region ?_
                refine wh_q rfl rfl (q_move rfl) ?_
                refine wh_q rfl rfl (q_bin rfl rfl rfl) ?_
                refine wh_nil ?_
                refine wmh_ite rfl h (fun hc17 h => ?_) (fun hc17 h => ?_)
                · refine wmh_seq ?_
                  refine wmh_region ?_
                  refine wh_q rfl rfl (q_move rfl) ?_
                  refine wh_q rfl rfl (q_assign rfl) ?_
                  refine wh_nil ?_
                  refine wmh_ret ?_
                  obtain rfl := (some_inj h).symm
                  exact ⟨_, _, rh_one rfl rfl, sub_cuts (is := [1]) rfl, rfl, rfl⟩
                · refine wmh_skip ?_
                  refine wmh_seq ?_
                  refine wmh_region ?_
                  refine wh_q rfl rfl (q_assign rfl) ?_
                  refine wh_nil ?_
                  refine wmh_ret ?_
                  obtain rfl := (some_inj h).symm
                  exact ⟨_, _, rh_one rfl rfl, sub_cuts (is := [1]) rfl, rfl, rfl⟩
              · refine wmh_seq ?_
                refine wmh_region ?_
                refine wh_q rfl rfl (q_bin rfl rfl rfl) ?_
                refine wh_q rfl rfl (q_assign rfl) ?_
                refine wh_nil ?_
                refine wmh_ite rfl h (fun hc18 h => ?_) (fun hc18 h => ?_)
                · refine wmh_seq ?_
                  refine wmh_region ?_
                  refine wh_q rfl rfl (q_assign rfl) ?_
                  refine wh_nil ?_
                  refine wmh_ret ?_
                  obtain rfl := (some_inj h).symm
                  exact ⟨_, _, rh_one rfl rfl, sub_cuts (is := [1]) rfl, rfl, rfl⟩
                · refine wmh_skip ?_
                  refine wmh_seq ?_
                  refine wmh_region ?_
                  refine wh_q rfl rfl (q_assign rfl) ?_
                  refine wh_nil ?_
                  refine wmh_ret ?_
                  obtain rfl := (some_inj h).symm
                  exact ⟨_, _, rh_one rfl rfl, sub_cuts (is := [1]) rfl, rfl, rfl⟩
      · refine wmh_seq ?_
        refine wmh_region ?_
        refine wh_q rfl rfl (q_bin rfl rfl rfl) ?_
        refine wh_q rfl rfl (q_assign rfl) ?_
        refine wh_nil ?_
        refine wmh_ite rfl h (fun hc19 h => ?_) (fun hc19 h => ?_)
        · refine wmh_skip ?_
          refine wmh_ite rfl h (fun hc20 h => ?_) (fun hc20 h => ?_)
          · refine wmh_seq ?_
            refine wmh_region ?_
            refine wh_q rfl rfl (q_assign rfl) ?_
            refine wh_nil ?_
            refine wmh_ret ?_
            obtain rfl := (some_inj h).symm
            exact ⟨_, _, rh_one rfl rfl, sub_cuts (is := [1]) rfl, rfl, rfl⟩
          · refine wmh_seq ?_
            refine wmh_region ?_
            refine wh_q rfl rfl (q_bin rfl rfl rfl) ?_
            refine wh_q rfl rfl (q_assign rfl) ?_
            refine wh_nil ?_
            refine wmh_ite rfl h (fun hc21 h => ?_) (fun hc21 h => ?_)
            · refine wmh_seq ?_
              refine wmh_region ?_
              refine wh_q rfl rfl (q_assign rfl) ?_
              refine wh_nil ?_
              refine wmh_ret ?_
              obtain rfl := (some_inj h).symm
              exact ⟨_, _, rh_one rfl rfl, sub_cuts (is := [1]) rfl, rfl, rfl⟩
            · refine wmh_seq ?_
              refine wmh_region ?_
              refine wh_q rfl rfl (q_bin rfl rfl rfl) ?_
              refine wh_q rfl rfl (q_assign rfl) ?_
              refine wh_nil ?_
              refine wmh_ite rfl h (fun hc22 h => ?_) (fun hc22 h => ?_)
              · refine wmh_seq ?_
                refine wmh_region ?_
                refine wh_q rfl rfl (q_fieldAddr_own fl105_6 rfl) ?_
                refine wh_q rfl rfl (q_load_own ty102 rfl (i := 0) rfl rfl) ?_
                refine wh_q rfl rfl (q_len_slA Tryd.underlying102 rfl) ?_
                refine wh_q rfl rfl (q_max rfl rfl) ?_
                refine wh_q rfl rfl (q_assign rfl) ?_
                refine wh_nil ?_
                refine wmh_ret ?_
                obtain rfl := (some_inj h).symm
                exact ⟨_, _, rh_one rfl rfl, sub_cuts (is := [1]) rfl, rfl, rfl⟩
              · refine wmh_seq ?_
                refine wmh_region ?_
                refine wh_q rfl rfl (q_bin rfl rfl rfl) ?_
                refine wh_q rfl rfl (q_assign rfl) ?_
                refine wh_nil ?_
                refine wmh_ite rfl h (fun hc23 h => ?_) (fun hc23 h => ?_)
                · refine wmh_seq ?_
                  refine wmh_region ?_
                  refine wh_q rfl rfl (q_fieldAddr_own fl105_5 rfl) ?_
                  refine wh_q rfl rfl (q_load_own ty9 rfl (i := 0) rfl rfl) ?_
                  obtain ⟨v14, hb25, h⟩ := obind h
                  refine wh_l rfl rfl (oh_call1 [] fn151 rfl rfl (fun τ hτ => c151 hb25 τ) ?_)
                  refine wh_q rfl rfl (q_assign rfl) ?_
                  refine wh_nil ?_
                  refine wmh_seq ?_
                  refine wmh_region ?_
                  refine wh_q rfl rfl (q_move rfl) ?_
                  refine wh_q rfl rfl (q_bin rfl rfl rfl) ?_
                  refine wh_nil ?_
                  refine wmh_ite rfl h (fun hc26 h => ?_) (fun hc26 h => ?_)
                  · refine wmh_seq ?_
                    refine wmh_region ?_
                    refine wh_q rfl rfl (q_move rfl) ?_
                    refine wh_q rfl rfl (q_assign rfl) ?_
                    refine wh_nil ?_
                    refine wmh_ret ?_
                    obtain rfl := (some_inj h).symm
                    exact ⟨_, _, rh_one rfl rfl, sub_cuts (is := [1]) rfl, rfl, rfl⟩
                  · refine wmh_skip ?_
                    refine wmh_seq ?_
                    refine wmh_region ?_
                    refine wh_q rfl rfl (q_assign rfl) ?_
                    refine wh_nil ?_
                    refine wmh_ret ?_
                    obtain rfl := (some_inj h).symm
                    exact ⟨_, _, rh_one rfl rfl, sub_cuts (is := [1]) rfl, rfl, rfl⟩
                · refine wmh_seq ?_
                  refine wmh_region ?_
                  refine wh_q rfl rfl (q_bin rfl rfl rfl) ?_
                  refine wh_q rfl rfl (q_assign rfl) ?_
                  refine wh_nil ?_
                  refine wmh_ite rfl h (fun hc27 h => ?_) (fun hc27 h => ?_)
                  · refine wmh_seq ?_
                    refine wmh_region ?_
                    refine wh_q rfl rfl (q_assign rfl) ?_
                    refine wh_nil ?_
                    refine wmh_ret ?_
                    obtain rfl := (some_inj h).symm
                    exact ⟨_, _, rh_one rfl rfl, sub_cuts (is := [1]) rfl, rfl, rfl⟩
                  · refine wmh_skip ?_
                    refine wmh_seq ?_
                    refine wmh_region ?_
                    refine wh_q rfl rfl (q_assign rfl) ?_
                    refine wh_nil ?_
                    refine wmh_ret ?_
                    obtain rfl := (some_inj h).symm
                    exact ⟨_, _, rh_one rfl rfl, sub_cuts (is := [1]) rfl, rfl, rfl⟩
        · refine wmh_seq ?_
          refine wmh_region ?_
          refine wh_q rfl rfl (q_bin rfl rfl rfl) ?_
          refine wh_q rfl rfl (q_assign rfl) ?_
          refine wh_nil ?_
          refine wmh_ite rfl h (fun hc28 h => ?_) (fun hc28 h => ?_)
          · refine wmh_skip ?_
            refine wmh_ite rfl h (fun hc29 h => ?_) (fun hc29 h => ?_)
            · refine wmh_seq ?_
              refine wmh_region ?_
              refine wh_q rfl rfl (q_assign rfl) ?_
              refine wh_nil ?_
              refine wmh_ret ?_
              obtain rfl := (some_inj h).symm
              exact ⟨_, _, rh_one rfl rfl, sub_cuts (is := [1]) rfl, rfl, rfl⟩
            · refine wmh_seq ?_
              refine wmh_region ?_
              refine wh_q rfl rfl (q_bin rfl rfl rfl) ?_
              refine wh_q rfl rfl (q_assign rfl) ?_
              refine wh_nil ?_
              refine wmh_ite rfl h (fun hc30 h => ?_) (fun hc30 h => ?_)
              · refine wmh_seq ?_
                refine wmh_region ?_
                refine wh_q rfl rfl (q_assign rfl) ?_
                refine wh_nil ?_
                refine wmh_ret ?_
                obtain rfl := (some_inj h).symm
                exact ⟨_, _, rh_one rfl rfl, sub_cuts (is := [1]) rfl, rfl, rfl⟩
              · refine wmh_seq ?_
                refine wmh_region ?_
                refine wh_q rfl rfl (q_bin rfl rfl rfl) ?_
                refine wh_q rfl rfl (q_assign rfl) ?_
                refine wh_nil ?_
                refine wmh_ite rfl h (fun hc31 h => ?_) (fun hc31 h => ?_)
                · refine wmh_seq ?_
                  refine wmh_region ?_
                  refine wh_q rfl rfl (q_fieldAddr_own fl105_6 rfl) ?_
                  refine wh_q rfl rfl (q_load_own ty102 rfl (i := 0) rfl rfl) ?_
                  refine wh_q rfl rfl (q_len_slA Tryd.underlying102 rfl) ?_
                  refine wh_q rfl rfl (q_max rfl rfl) ?_
                  refine wh_q rfl rfl (q_assign rfl) ?_
                  refine wh_nil ?_
                  refine wmh_ret ?_
                  obtain rfl := (some_inj h).symm
                  exact ⟨_, _, rh_one rfl rfl, sub_cuts (is := [1]) rfl, rfl, rfl⟩
                · refine wmh_seq ?_
                  refine wmh_region ?_
                  refine wh_q rfl rfl (q_bin rfl rfl rfl) ?_
                  refine wh_q rfl rfl (q_assign rfl) ?_
                  refine wh_nil ?_
                  refine wmh_ite rfl h (fun hc32 h => ?_) (fun hc32 h => ?_)
                  · refine wmh_seq ?_
                    refine wmh_region ?_
                    refine wh_q rfl rfl (q_fieldAddr_own fl105_5 rfl) ?_
                    refine wh_q rfl rfl (q_load_own ty9 rfl (i := 0) rfl rfl) ?_
                    obtain ⟨v16, hb34, h⟩ := obind h
                    refine wh_l rfl rfl (oh_call1 [] fn151 rfl rfl (fun τ hτ => c151 hb34 τ) ?_)
                    refine wh_q rfl rfl (q_assign rfl) ?_
                    refine wh_nil ?_
                    refine wmh_seq ?_
                    refine wmh_region ?_
                    refine wh_q rfl rfl (q_move rfl) ?_
                    refine wh_q rfl rfl (q_bin rfl rfl rfl) ?_
                    refine wh_nil ?_
                    refine wmh_ite rfl h (fun hc35 h => ?_) (fun hc35 h => ?_)
                    · refine wmh_seq ?_
                      refine wmh_region ?_
                      refine wh_q rfl rfl (q_move rfl) ?_
                      refine wh_q rfl rfl (q_assign rfl) ?_
                      refine wh_nil ?_
                      refine wmh_ret ?_
                      obtain rfl := (some_inj h).symm
                      exact ⟨_, _, rh_one rfl rfl, sub_cuts (is := [1]) rfl, rfl, rfl⟩
                    · refine wmh_skip ?_
                      refine wmh_seq ?_
                      refine wmh_region ?_
                      refine wh_q rfl rfl (q_assign rfl) ?_
                      refine wh_nil ?_
                      refine wmh_ret ?_
                      obtain rfl := (some_inj h).symm
                      exact ⟨_, _, rh_one rfl rfl, sub_cuts (is := [1]) rfl, rfl, rfl⟩
                  · refine wmh_seq ?_
                    refine wmh_region ?_
                    refine wh_q rfl rfl (q_bin rfl rfl rfl) ?_
                    refine wh_q rfl rfl (q_assign rfl) ?_
                    refine wh_nil ?_
                    refine wmh_ite rfl h (fun hc36 h => ?_) (fun hc36 h => ?_)
                    · refine wmh_seq ?_
                      refine wmh_region ?_
                      refine wh_q rfl rfl (q_assign rfl) ?_
                      refine wh_nil ?_
                      refine wmh_ret ?_
                      obtain rfl := (some_inj h).symm
                      exact ⟨_, _, rh_one rfl rfl, sub_cuts (is := [1]) rfl, rfl, rfl⟩
                    · refine wmh_skip ?_
                      refine wmh_seq ?_
                      refine wmh_region ?_
                      refine wh_q rfl rfl (q_assign rfl) ?_
                      refine wh_nil ?_
                      refine wmh_ret ?_
                      obtain rfl := (some_inj h).symm
                      exact ⟨_, _, rh_one rfl rfl, sub_cuts (is := [1]) rfl, rfl, rfl⟩
          · refine wmh_seq ?_
            refine wmh_region ?_
            refine wh_q rfl rfl (q_bin rfl rfl rfl) ?_
            refine wh_q rfl rfl (q_assign rfl) ?_
            refine wh_nil ?_
            refine wmh_ite rfl h (fun hc37 h => ?_) (fun hc37 h => ?_)
            · refine wmh_skip ?_
              refine wmh_ite rfl h (fun hc38 h => ?_) (fun hc38 h => ?_)
              · refine wmh_seq ?_
                refine wmh_region ?_
                refine wh_q rfl rfl (q_assign rfl) ?_
                refine wh_nil ?_
                refine wmh_ret ?_
                obtain rfl := (some_inj h).symm
                exact ⟨_, _, rh_one rfl rfl, sub_cuts (is := [1]) rfl, rfl, rfl⟩
              · refine wmh_seq ?_
                refine wmh_region ?_
                refine wh_q rfl rfl (q_bin rfl rfl rfl) ?_
                refine wh_q rfl rfl (q_assign rfl) ?_
                refine wh_nil ?_
                refine wmh_ite rfl h (fun hc39 h => ?_) (fun hc39 h => ?_)
                · refine wmh_seq ?_
                  refine wmh_region ?_
                  refine wh_q rfl rfl (q_assign rfl) ?_
                  refine wh_nil ?_
                  refine wmh_ret ?_
                  obtain rfl := (some_inj h).symm
                  exact ⟨_, _, rh_one rfl rfl, sub_cuts (is := [1]) rfl, rfl, rfl⟩
                · refine wmh_seq ?_
                  refine wmh_region ?_
                  refine wh_q rfl rfl (q_bin rfl rfl rfl) ?_
                  refine wh_q rfl rfl (q_assign rfl) ?_
                  refine wh_nil ?_
                  refine wmh_ite rfl h (fun hc40 h => ?_) (fun hc40 h => ?_)
                  · refine wmh_seq ?_
                    refine wmh_region ?_
                    refine wh_q rfl rfl (q_fieldAddr_own fl105_6 rfl) ?_
                    refine wh_q rfl rfl (q_load_own ty102 rfl (i := 0) rfl rfl) ?_
                    refine wh_q rfl rfl (q_len_slA Tryd.underlying102 rfl) ?_
                    refine wh_q rfl rfl (q_max rfl rfl) ?_
                    refine wh_q rfl rfl (q_assign rfl) ?_
                    refine wh_nil ?_
                    refine wmh_ret ?_
                    obtain rfl := (some_inj h).symm
                    exact ⟨_, _, rh_one rfl rfl, sub_cuts (is := [1]) rfl, rfl, rfl⟩
                  · refine wmh_seq ?_
                    refine wmh_region ?_
                    refine wh_q rfl rfl (q_bin rfl rfl rfl) ?_
                    refine wh_q rfl rfl (q_assign rfl) ?_
                    refine wh_nil ?_
                    refine wmh_ite rfl h (fun hc41 h => ?_) (fun hc41 h => ?_)
                    · refine wmh_seq ?_
                      refine wmh_region ?_
                      refine wh_q rfl rfl (q_fieldAddr_own fl105_5 rfl) ?_
                      refine wh_q rfl rfl (q_load_own ty9 rfl (i := 0) rfl rfl) ?_
                      obtain ⟨v18, hb43, h⟩ := obind h
                      refine wh_l rfl rfl (oh_call1 [] fn151 rfl rfl (fun τ hτ => c151 hb43 τ) ?_)
                      refine wh_q rfl rfl (q_assign rfl) ?_
                      refine wh_nil ?_
                      refine wmh_seq ?_
                      refine wmh_region ?_
                      refine wh_q rfl rfl (q_move rfl) ?_
                      refine wh_q rfl rfl (q_bin rfl rfl rfl) ?_
                      refine wh_nil ?_
                      refine wmh_ite rfl h (fun hc44 h => ?_) (fun hc44 h => ?_)
                      · refine wmh_seq ?_
                        refine wmh_region ?_
                        refine wh_q rfl rfl (q_move rfl) ?_
                        refine wh_q rfl rfl (q_assign rfl) ?_
                        refine wh_nil ?_
                        refine wmh_ret ?_
                        obtain rfl := (some_inj h).symm
                        exact ⟨_, _, rh_one rfl rfl, sub_cuts (is := [1]) rfl, rfl, rfl⟩
                      · refine wmh_skip ?_
                        refine wmh_seq ?_
                        refine wmh_region ?_
                        refine wh_q rfl rfl (q_assign rfl) ?_
                        refine wh_nil ?_
                        refine wmh_ret ?_
                        obtain rfl := (some_inj h).symm
                        exact ⟨_, _, rh_one rfl rfl, sub_cuts (is := [1]) rfl, rfl, rfl⟩
                    · refine wmh_seq ?_
                      refine wmh_region ?_
                      refine wh_q rfl rfl (q_bin rfl rfl rfl) ?_
                      refine wh_q rfl rfl (q_assign rfl) ?_
                      refine wh_nil ?_
                      refine wmh_ite rfl h (fun hc45 h => ?_) (fun hc45 h => ?_)
                      · refine wmh_seq ?_
                        refine wmh_region ?_
                        refine wh_q rfl rfl (q_assign rfl) ?_
                        refine wh_nil ?_
                        refine wmh_ret ?_
                        obtain rfl := (some_inj h).symm
                        exact ⟨_, _, rh_one rfl rfl, sub_cuts (is := [1]) rfl, rfl, rfl⟩
                      · refine wmh_skip ?_
                        refine wmh_seq ?_
                        refine wmh_region ?_
                        refine wh_q rfl rfl (q_assign rfl) ?_
                        refine wh_nil ?_
                        refine wmh_ret ?_
                        obtain rfl := (some_inj h).symm
                        exact ⟨_, _, rh_one rfl rfl, sub_cuts (is := [1]) rfl, rfl, rfl⟩
            · refine wmh_seq ?_
              refine wmh_region ?_
              refine wh_q rfl rfl (q_bin rfl rfl rfl) ?_
              refine wh_q rfl rfl (q_assign rfl) ?_
              refine wh_nil ?_
              refine wmh_ite rfl h (fun hc46 h => ?_) (fun hc46 h => ?_)
              · refine wmh_skip ?_
                refine wmh_ite rfl h (fun hc47 h => ?_) (fun hc47 h => ?_)
                · refine wmh_seq ?_
                  refine wmh_region ?_
                  refine wh_q rfl rfl (q_assign rfl) ?_
                  refine wh_nil ?_
                  refine wmh_ret ?_
                  obtain rfl := (some_inj h).symm
                  exact ⟨_, _, rh_one rfl rfl, sub_cuts (is := [1]) rfl, rfl, rfl⟩
                · refine wmh_seq ?_
                  refine wmh_region ?_
                  refine wh_q rfl rfl (q_bin rfl rfl rfl) ?_
                  refine wh_q rfl rfl (q_assign rfl) ?_
                  refine wh_nil ?_
                  refine wmh_ite rfl h (fun hc48 h => ?_) (fun hc48 h => ?_)
                  · refine wmh_seq ?_
                    refine wmh_region ?_
                    refine wh_q rfl rfl (q_assign rfl) ?_
                    refine wh_nil ?_
                    refine wmh_ret ?_
                    obtain rfl := (some_inj h).symm
                    exact ⟨_, _, rh_one rfl rfl, sub_cuts (is := [1]) rfl, rfl, rfl⟩
                  · refine wmh_seq ?_
                    refine wmh_region ?_
                    refine wh_q rfl rfl (q_bin rfl rfl rfl) ?_
                    refine wh_q rfl rfl (q_assign rfl) ?_
                    refine wh_nil ?_
                    refine wmh_ite rfl h (fun hc49 h => ?_) (fun hc49 h => ?_)
                    · refine wmh_seq ?_
                      refine wmh_region ?_
                      refine wh_q rfl rfl (q_fieldAddr_own fl105_6 rfl) ?_
                      refine wh_q rfl rfl (q_load_own ty102 rfl (i := 0) rfl rfl) ?_
                      refine wh_q rfl rfl (q_len_slA Tryd.underlying102 rfl) ?_
                      refine wh_q rfl rfl (q_max rfl rfl) ?_
                      refine wh_q rfl rfl (q_assign rfl) ?_
                      refine wh_nil ?_
                      refine wmh_ret ?_
                      obtain rfl := (some_inj h).symm
                      exact ⟨_, _, rh_one rfl rfl, sub_cuts (is := [1]) rfl, rfl, rfl⟩
                    · refine wmh_seq ?_
                      refine wmh_region ?_
                      refine wh_q rfl rfl (q_bin rfl rfl rfl) ?_
                      refine wh_q rfl rfl (q_assign rfl) ?_
                      refine wh_nil ?_
                      refine wmh_ite rfl h (fun hc50 h => ?_) (fun hc50 h => ?_)
                      · refine wmh_seq ?_
                        refine wmh_region ?_
                        refine wh_q rfl rfl (q_fieldAddr_own fl105_5 rfl) ?_
                        refine wh_q rfl rfl (q_load_own ty9 rfl (i := 0) rfl rfl) ?_
                        obtain ⟨v20, hb52, h⟩ := obind h
                        refine wh_l rfl rfl (oh_call1 [] fn151 rfl rfl (fun τ hτ => c151 hb52 τ) ?_)
                        refine wh_q rfl rfl (q_assign rfl) ?_
                        refine wh_nil ?_
                        refine wmh_seq ?_
                        refine wmh_region ?_
                        refine wh_q rfl rfl (q_move rfl) ?_
                        refine wh_q rfl rfl (q_bin rfl rfl rfl) ?_
                        refine wh_nil ?_
                        refine wmh_ite rfl h (fun hc53 h => ?_) (fun hc53 h => ?_)
                        · refine wmh_seq ?_
                          refine wmh_region ?_
                          refine wh_q rfl rfl (q_move rfl) ?_
                          refine wh_q rfl rfl (q_assign rfl) ?_
                          refine wh_nil ?_
                          refine wmh_ret ?_
                          obtain rfl := (some_inj h).symm
                          exact ⟨_, _, rh_one rfl rfl, sub_cuts (is := [1]) rfl, rfl, rfl⟩
                        · refine wmh_skip ?_
                          refine wmh_seq ?_
                          refine wmh_region ?_
                          refine wh_q rfl rfl (q_assign rfl) ?_
                          refine wh_nil ?_
                          refine wmh_ret ?_
                          obtain rfl := (some_inj h).symm
                          exact ⟨_, _, rh_one rfl rfl, sub_cuts (is := [1]) rfl, rfl, rfl⟩
                      · refine wmh_seq ?_
                        refine wmh_region ?_
                        refine wh_q rfl rfl (q_bin rfl rfl rfl) ?_
                        refine wh_q rfl rfl (q_assign rfl) ?_
                        refine wh_nil ?_
                        refine wmh_ite rfl h (fun hc54 h => ?_) (fun hc54 h => ?_)
                        · refine wmh_seq ?_
                          refine wmh_region ?_
                          refine wh_q rfl rfl (q_assign rfl) ?_
                          refine wh_nil ?_
                          refine wmh_ret ?_
                          obtain rfl := (some_inj h).symm
                          exact ⟨_, _, rh_one rfl rfl, sub_cuts (is := [1]) rfl, rfl, rfl⟩
                        · refine wmh_skip ?_
                          refine wmh_seq ?_
                          refine wmh_region ?_
                          refine wh_q rfl rfl (q_assign rfl) ?_
                          refine wh_nil ?_
                          refine wmh_ret ?_
                          obtain rfl := (some_inj h).symm
                          exact ⟨_, _, rh_one rfl rfl, sub_cuts (is := [1]) rfl, rfl, rfl⟩
              · refine wmh_region ?_
                refine wh_q rfl rfl (q_bin rfl rfl rfl) ?_
                refine wh_q rfl rfl (q_assign rfl) ?_
                refine wh_nil ?_
                refine wmh_ite rfl h (fun hc55 h => ?_) (fun hc55 h => ?_)
                · refine wmh_seq ?_
                  refine wmh_region ?_
                  refine wh_q rfl rfl (q_assign rfl) ?_
                  refine wh_nil ?_
                  refine wmh_ret ?_
                  obtain rfl := (some_inj h).symm
                  exact ⟨_, _, rh_one rfl rfl, sub_cuts (is := [1]) rfl, rfl, rfl⟩
                · refine wmh_seq ?_
                  refine wmh_region ?_
                  refine wh_q rfl rfl (q_bin rfl rfl rfl) ?_
                  refine wh_q rfl rfl (q_assign rfl) ?_
                  refine wh_nil ?_
                  refine wmh_ite rfl h (fun hc56 h => ?_) (fun hc56 h => ?_)
                  · refine wmh_seq ?_
                    refine wmh_region ?_
                    refine wh_q rfl rfl (q_assign rfl) ?_
                    refine wh_nil ?_
                    refine wmh_ret ?_
                    obtain rfl := (some_inj h).symm
                    exact ⟨_, _, rh_one rfl rfl, sub_cuts (is := [1]) rfl, rfl, rfl⟩
                  · refine wmh_seq ?_
                    refine wmh_region ?_
                    refine wh_q rfl rfl (q_bin rfl rfl rfl) ?_
                    refine wh_q rfl rfl (q_assign rfl) ?_
                    refine wh_nil ?_
                    refine wmh_ite rfl h (fun hc57 h => ?_) (fun hc57 h => ?_)
                    · refine wmh_seq ?_
                      refine wmh_region ?_
                      refine wh_q rfl rfl (q_fieldAddr_own fl105_6 rfl) ?_
                      refine wh_q rfl rfl (q_load_own ty102 rfl (i := 0) rfl rfl) ?_
                      refine wh_q rfl rfl (q_len_slA Tryd.underlying102 rfl) ?_
                      refine wh_q rfl rfl (q_max rfl rfl) ?_
                      refine wh_q rfl rfl (q_assign rfl) ?_
                      refine wh_nil ?_
                      refine wmh_ret ?_
                      obtain rfl := (some_inj h).symm
                      exact ⟨_, _, rh_one rfl rfl, sub_cuts (is := [1]) rfl, rfl, rfl⟩
                    · refine wmh_seq ?_
                      refine wmh_region ?_
                      refine wh_q rfl rfl (q_bin rfl rfl rfl) ?_
                      refine wh_q rfl rfl (q_assign rfl) ?_
                      refine wh_nil ?_
                      refine wmh_ite rfl h (fun hc58 h => ?_) (fun hc58 h => ?_)
                      · refine wmh_seq ?_
                        refine wmh_region ?_
                        refine wh_q rfl rfl (q_fieldAddr_own fl105_5 rfl) ?_
                        refine wh_q rfl rfl (q_load_own ty9 rfl (i := 0) rfl rfl) ?_
                        obtain ⟨v22, hb60, h⟩ := obind h
                        refine wh_l rfl rfl (oh_call1 [] fn151 rfl rfl (fun τ hτ => c151 hb60 τ) ?_)
                        refine wh_q rfl rfl (q_assign rfl) ?_
                        refine wh_nil ?_
                        refine wmh_seq ?_
                        refine wmh_region ?_
                        refine wh_q rfl rfl (q_move rfl) ?_
                        refine wh_q rfl rfl (q_bin rfl rfl rfl) ?_
                        refine wh_nil ?_
                        refine wmh_ite rfl h (fun hc61 h => ?_) (fun hc61 h => ?_)
                        · refine wmh_seq ?_
                          refine wmh_region ?_
                          refine wh_q rfl rfl (q_move rfl) ?_
                          refine wh_q rfl rfl (q_assign rfl) ?_
                          refine wh_nil ?_
                          refine wmh_ret ?_
                          obtain rfl := (some_inj h).symm
                          exact ⟨_, _, rh_one rfl rfl, sub_cuts (is := [1]) rfl, rfl, rfl⟩
                        · refine wmh_skip ?_
                          refine wmh_seq ?_
                          refine wmh_region ?_
                          refine wh_q rfl rfl (q_assign rfl) ?_
                          refine wh_nil ?_
                          refine wmh_ret ?_
                          obtain rfl := (some_inj h).symm
                          exact ⟨_, _, rh_one rfl rfl, sub_cuts (is := [1]) rfl, rfl, rfl⟩
                      · refine wmh_seq ?_
                        refine wmh_region ?_
                        refine wh_q rfl rfl (q_bin rfl rfl rfl) ?_
                        refine wh_q rfl rfl (q_assign rfl) ?_
                        refine wh_nil ?_
                        refine wmh_ite rfl h (fun hc62 h => ?_) (fun hc62 h => ?_)
                        · refine wmh_seq ?_
                          refine wmh_region ?_
                          refine wh_q rfl rfl (q_assign rfl) ?_
                          refine wh_nil ?_
                          refine wmh_ret ?_
                          obtain rfl := (some_inj h).symm
                          exact ⟨_, _, rh_one rfl rfl, sub_cuts (is := [1]) rfl, rfl, rfl⟩
                        · refine wmh_skip ?_
                          refine wmh_seq ?_
                          refine wmh_region ?_
                          refine wh_q rfl rfl (q_assign rfl) ?_
                          refine wh_nil ?_
                          refine wmh_ret ?_
                          obtain rfl := (some_inj h).symm
                          exact ⟨_, _, rh_one rfl rfl, sub_cuts (is := [1]) rfl, rfl, rfl⟩
def p119 : CCode → CIns → Option Bool
| v1, v2 =>
if (decide (v2.op = 7)) then
some true
else
if (decide (v2.op = 9)) then
some true
else
if (decide (v2.op = 1)) then
(at? v1.tags v2.tag) >>= fun v7 =>
if (decide (v7.kind = 5)) then
some true
else
(at? v1.tags v2.tag) >>= fun v8 =>
some (decide (v8.kind = 6))
else
some false
theorem c119 [ErrC] {v1 : CCode} {v2 : CIns} {r : Bool} (h : p119 v1 v2 = some r) (τ : Store) : CMH Tryd.prog 119 [.ref (CCode.A v1) 0, .agg [iA v2.op, iA v2.to, iA v2.tag, iA v2.fn, iA v2.n, sA v2.prim, slA 2 CVal.A v2.vals, slA 4 CAlt.A v2.alts]] [.frm τ] (Ret1 (.sc (.bool r)) [] τ) := by
  rw [p119.eq_1] at h
  refine ch_enter Tryd.func119 rfl Tryd.ntmps119 rfl ?_
  refine wmh_seq ?_
  refine wmh_region ?_
  refine wh_l rfl rfl (oh_box (n := 8) rfl rfl rfl (fun k4 => ?_))
  refine wh_q rfl rfl (q_assign rfl) ?_
  refine wh_nil ?_
  refine wmh_seq ?_
  refine wmh_drawn _ [] [0, 1, 2, 3, 4, 5, 6, 7, 8, 9, 10, 11, 12, 13, 14, 15, 16, 17, 18, 19, 20, 21, 22, 23, 24, 25, 26, 27, 28, 29, 30, 31, 32, 33, 34, 35, 36, 37] mixed (by kernel_rfl) (sub_cuts (is := [0]) rfl) ?_
  refine vh_q rfl rfl rfl rfl (q_fieldAddr_own fl105_0 rfl) ?_
  refine vh_q rfl rfl rfl rfl (q_load_own ty3 rfl (i := 0) rfl rfl) ?_
  refine vh_q rfl rfl rfl rfl (q_bin rfl rfl rfl) ?_
  refine vh_q rfl rfl rfl rfl (q_move rfl) ?_
  refine vh_ite (t := 8) rfl h (fun hc6 h => ?_) (fun hc6 h => ?_)
  · refine vh_sk (sub_cuts (is := [0]) rfl) rfl rfl rfl ?_
    refine vh_sk (sub_cuts (is := [0]) rfl) rfl rfl rfl ?_
    refine vh_sk (sub_cuts (is := [0]) rfl) rfl rfl rfl ?_
    refine vh_q rfl rfl rfl rfl (q_pick_t rfl rfl) ?_
    refine vh_q rfl rfl rfl rfl (q_move rfl) ?_
    refine vh_sk (sub_cuts (is := [0]) rfl) rfl rfl rfl ?_
    refine vh_sk (sub_cuts (is := [0]) rfl) rfl rfl rfl ?_
    refine vh_sk (sub_cuts (is := [0]) rfl) rfl rfl rfl ?_
    refine vh_sk (sub_cuts (is := [0]) rfl) rfl rfl rfl ?_
    refine vh_sk (sub_cuts (is := [0]) rfl) rfl rfl rfl ?_
    refine vh_sk (sub_cuts (is := [0]) rfl) rfl rfl rfl ?_
    refine vh_sk (sub_cuts (is := [0]) rfl) rfl rfl rfl ?_
    refine vh_sk (sub_cuts (is := [0]) rfl) rfl rfl rfl ?_
    refine vh_sk (sub_cuts (is := [0]) rfl) rfl rfl rfl ?_
    refine vh_sk (sub_cuts (is := [0]) rfl) rfl rfl rfl ?_
    refine vh_sk (sub_cuts (is := [0]) rfl) rfl rfl rfl ?_
    refine vh_sk (sub_cuts (is := [0]) rfl) rfl rfl rfl ?_
    refine vh_sk (sub_cuts (is := [0]) rfl) rfl rfl rfl ?_
    refine vh_sk (sub_cuts (is := [0]) rfl) rfl rfl rfl ?_
    refine vh_sk (sub_cuts (is := [0]) rfl) rfl rfl rfl ?_
    refine vh_sk (sub_cuts (is := [0]) rfl) rfl rfl rfl ?_
    refine vh_sk (sub_cuts (is := [0]) rfl) rfl rfl rfl ?_
    refine vh_sk (sub_cuts (is := [0]) rfl) rfl rfl rfl ?_
    refine vh_sk (sub_cuts (is := [0]) rfl) rfl rfl rfl ?_
    refine vh_sk (sub_cuts (is := [0]) rfl) rfl rfl rfl ?_
    refine vh_sk (sub_cuts (is := [0]) rfl) rfl rfl rfl ?_
    refine vh_sk (sub_cuts (is := [0]) rfl) rfl rfl rfl ?_
    refine vh_sk (sub_cuts (is := [0]) rfl) rfl rfl rfl ?_
    refine vh_sk (sub_cuts (is := [0]) rfl) rfl rfl rfl ?_
    refine vh_sk (sub_cuts (is := [0]) rfl) rfl rfl rfl ?_
    refine vh_sk (sub_cuts (is := [0]) rfl) rfl rfl rfl ?_
    refine vh_sk (sub_cuts (is := [0]) rfl) rfl rfl rfl ?_
    refine vh_q rfl rfl rfl rfl (q_pick_t rfl rfl) ?_
    refine vh_q rfl rfl rfl rfl (q_assign rfl) ?_
    refine vh_nil ?_
    refine wmh_ret ?_
    obtain rfl := (some_inj h).symm
    exact ⟨_, _, rh_one rfl rfl, sub_cuts (is := [1]) rfl, rfl, rfl⟩
  · refine vh_q rfl rfl rfl rfl (q_fieldAddr_own fl105_0 rfl) ?_
    refine vh_q rfl rfl rfl rfl (q_load_own ty3 rfl (i := 0) rfl rfl) ?_
    refine vh_q rfl rfl rfl rfl (q_bin rfl rfl rfl) ?_
    refine vh_q rfl rfl rfl rfl (q_pick_f rfl rfl) ?_
    refine vh_q rfl rfl rfl rfl (q_move rfl) ?_
    refine vh_ite (t := 13) rfl h (fun hc7 h => ?_) (fun hc7 h => ?_)
    · refine vh_sk (sub_cuts (is := [0]) rfl) rfl rfl rfl ?_
      refine vh_sk (sub_cuts (is := [0]) rfl) rfl rfl rfl ?_
      refine vh_sk (sub_cuts (is := [0]) rfl) rfl rfl rfl ?_
      refine vh_sk (sub_cuts (is := [0]) rfl) rfl rfl rfl ?_
      refine vh_sk (sub_cuts (is := [0]) rfl) rfl rfl rfl ?_
      refine vh_sk (sub_cuts (is := [0]) rfl) rfl rfl rfl ?_
      refine vh_sk (sub_cuts (is := [0]) rfl) rfl rfl rfl ?_
      refine vh_sk (sub_cuts (is := [0]) rfl) rfl rfl rfl ?_
      refine vh_sk (sub_cuts (is := [0]) rfl) rfl rfl rfl ?_
      refine vh_sk (sub_cuts (is := [0]) rfl) rfl rfl rfl ?_
      refine vh_sk (sub_cuts (is := [0]) rfl) rfl rfl rfl ?_
      refine vh_sk (sub_cuts (is := [0]) rfl) rfl rfl rfl ?_
      refine vh_sk (sub_cuts (is := [0]) rfl) rfl rfl rfl ?_
      refine vh_sk (sub_cuts (is := [0]) rfl) rfl rfl rfl ?_
      refine vh_sk (sub_cuts (is := [0]) rfl) rfl rfl rfl ?_
      refine vh_sk (sub_cuts (is := [0]) rfl) rfl rfl rfl ?_
      refine vh_sk (sub_cuts (is := [0]) rfl) rfl rfl rfl ?_
      refine vh_sk (sub_cuts (is := [0]) rfl) rfl rfl rfl ?_
      refine vh_sk (sub_cuts (is := [0]) rfl) rfl rfl rfl ?_
      refine vh_sk (sub_cuts (is := [0]) rfl) rfl rfl rfl ?_
      refine vh_sk (sub_cuts (is := [0]) rfl) rfl rfl rfl ?_
      refine vh_sk (sub_cuts (is := [0]) rfl) rfl rfl rfl ?_
      refine vh_sk (sub_cuts (is := [0]) rfl) rfl rfl rfl ?_
      refine vh_sk (sub_cuts (is := [0]) rfl) rfl rfl rfl ?_
      refine vh_sk (sub_cuts (is := [0]) rfl) rfl rfl rfl ?_
      refine vh_sk (sub_cuts (is := [0]) rfl) rfl rfl rfl ?_
      refine vh_sk (sub_cuts (is := [0]) rfl) rfl rfl rfl ?_
      refine vh_q rfl rfl rfl rfl (q_pick_t rfl rfl) ?_
      refine vh_q rfl rfl rfl rfl (q_assign rfl) ?_
      refine vh_nil ?_
      refine wmh_ret ?_
      obtain rfl := (some_inj h).symm
      exact ⟨_, _, rh_one rfl rfl, sub_cuts (is := [1]) rfl, rfl, rfl⟩
    · refine vh_q rfl rfl rfl rfl (q_fieldAddr_own fl105_0 rfl) ?_
      refine vh_q rfl rfl rfl rfl (q_load_own ty3 rfl (i := 0) rfl rfl) ?_
      refine vh_q rfl rfl rfl rfl (q_bin rfl rfl rfl) ?_
      refine vh_q rfl rfl rfl rfl (q_move rfl) ?_
      refine vh_ite (t := 17) rfl h (fun hc8 h => ?_) (fun hc8 h => ?_)
      · refine vh_q rfl rfl rfl rfl (q_move rfl) ?_
        refine vh_q rfl rfl rfl rfl (q_nilCheck_ref rfl) ?_
        refine vh_q rfl rfl rfl rfl (q_fieldAddr_ref fl96_0 rfl) ?_
        refine vh_q rfl rfl rfl rfl (q_load_ref ty92 rfl rfl rfl) ?_
        refine vh_q rfl rfl rfl rfl (q_fieldAddr_own fl105_2 rfl) ?_
        refine vh_q rfl rfl rfl rfl (q_load_own ty3 rfl (i := 0) rfl rfl) ?_
        obtain ⟨v7, hb9, h⟩ := obind h
        refine vh_q rfl rfl rfl rfl (q_index el92 rfl rfl hb9) ?_
        refine vh_q rfl rfl rfl rfl (q_fieldAddr_ref fl98_0 rfl) ?_
        refine vh_q rfl rfl rfl rfl (q_load_ref ty3 rfl rfl rfl) ?_
        refine vh_q rfl rfl rfl rfl (q_bin rfl rfl rfl) ?_
        refine vh_q rfl rfl rfl rfl (q_move rfl) ?_
        refine vh_ite (t := 28) rfl h (fun hc10 h => ?_) (fun hc10 h => ?_)
        · refine vh_sk (sub_cuts (is := [0]) rfl) rfl rfl rfl ?_
          refine vh_sk (sub_cuts (is := [0]) rfl) rfl rfl rfl ?_
          refine vh_sk (sub_cuts (is := [0]) rfl) rfl rfl rfl ?_
          refine vh_sk (sub_cuts (is := [0]) rfl) rfl rfl rfl ?_
          refine vh_sk (sub_cuts (is := [0]) rfl) rfl rfl rfl ?_
          refine vh_sk (sub_cuts (is := [0]) rfl) rfl rfl rfl ?_
          refine vh_sk (sub_cuts (is := [0]) rfl) rfl rfl rfl ?_
          refine vh_sk (sub_cuts (is := [0]) rfl) rfl rfl rfl ?_
          refine vh_sk (sub_cuts (is := [0]) rfl) rfl rfl rfl ?_
          refine vh_sk (sub_cuts (is := [0]) rfl) rfl rfl rfl ?_
          refine vh_q rfl rfl rfl rfl (q_pick_t rfl rfl) ?_
          refine vh_q rfl rfl rfl rfl (q_pick_t rfl rfl) ?_
          refine vh_q rfl rfl rfl rfl (q_pick_f rfl rfl) ?_
          refine vh_q rfl rfl rfl rfl (q_assign rfl) ?_
          refine vh_nil ?_
          refine wmh_ret ?_
          obtain rfl := (some_inj h).symm
          exact ⟨_, _, rh_one rfl rfl, sub_cuts (is := [1]) rfl, rfl, rfl⟩
        · refine vh_q rfl rfl rfl rfl (q_move rfl) ?_
          refine vh_q rfl rfl rfl rfl (q_nilCheck_ref rfl) ?_
          refine vh_q rfl rfl rfl rfl (q_fieldAddr_ref fl96_0 rfl) ?_
          refine vh_q rfl rfl rfl rfl (q_load_ref ty92 rfl rfl rfl) ?_
          refine vh_q rfl rfl rfl rfl (q_fieldAddr_own fl105_2 rfl) ?_
          refine vh_q rfl rfl rfl rfl (q_load_own ty3 rfl (i := 0) rfl rfl) ?_
          obtain ⟨v8, hb11, h⟩ := obind h
          refine vh_q rfl rfl rfl rfl (q_index el92 rfl rfl hb11) ?_
          refine vh_q rfl rfl rfl rfl (q_fieldAddr_ref fl98_0 rfl) ?_
          refine vh_q rfl rfl rfl rfl (q_load_ref ty3 rfl rfl rfl) ?_
          refine vh_q rfl rfl rfl rfl (q_bin rfl rfl rfl) ?_
          refine vh_q rfl rfl rfl rfl (q_pick_f rfl rfl) ?_
          refine vh_q rfl rfl rfl rfl (q_pick_t rfl rfl) ?_
          refine vh_q rfl rfl rfl rfl (q_pick_f rfl rfl) ?_
          refine vh_q rfl rfl rfl rfl (q_assign rfl) ?_
          refine vh_nil ?_
          refine wmh_ret ?_
          obtain rfl := (some_inj h).symm
          exact ⟨_, _, rh_one rfl rfl, sub_cuts (is := [1]) rfl, rfl, rfl⟩
      · refine vh_sk (sub_cuts (is := [0]) rfl) rfl rfl rfl ?_
        refine vh_sk (sub_cuts (is := [0]) rfl) rfl rfl rfl ?_
        refine vh_sk (sub_cuts (is := [0]) rfl) rfl rfl rfl ?_
        refine vh_sk (sub_cuts (is := [0]) rfl) rfl rfl rfl ?_
        refine vh_sk (sub_cuts (is := [0]) rfl) rfl rfl rfl ?_
        refine vh_sk (sub_cuts (is := [0]) rfl) rfl rfl rfl ?_
        refine vh_sk (sub_cuts (is := [0]) rfl) rfl rfl rfl ?_
        refine vh_sk (sub_cuts (is := [0]) rfl) rfl rfl rfl ?_
        refine vh_sk (sub_cuts (is := [0]) rfl) rfl rfl rfl ?_
        refine vh_sk (sub_cuts (is := [0]) rfl) rfl rfl rfl ?_
        refine vh_sk (sub_cuts (is := [0]) rfl) rfl rfl rfl ?_
        refine vh_sk (sub_cuts (is := [0]) rfl) rfl rfl rfl ?_
        refine vh_sk (sub_cuts (is := [0]) rfl) rfl rfl rfl ?_
        refine vh_sk (sub_cuts (is := [0]) rfl) rfl rfl rfl ?_
        refine vh_sk (sub_cuts (is := [0]) rfl) rfl rfl rfl ?_
        refine vh_sk (sub_cuts (is := [0]) rfl) rfl rfl rfl ?_
        refine vh_sk (sub_cuts (is := [0]) rfl) rfl rfl rfl ?_
        refine vh_sk (sub_cuts (is := [0]) rfl) rfl rfl rfl ?_
        refine vh_sk (sub_cuts (is := [0]) rfl) rfl rfl rfl ?_
        refine vh_sk (sub_cuts (is := [0]) rfl) rfl rfl rfl ?_
        refine vh_sk (sub_cuts (is := [0]) rfl) rfl rfl rfl ?_
        refine vh_sk (sub_cuts (is := [0]) rfl) rfl rfl rfl ?_
        refine vh_q rfl rfl rfl rfl (q_pick_f rfl rfl) ?_
        refine vh_q rfl rfl rfl rfl (q_pick_f rfl rfl) ?_
        refine vh_q rfl rfl rfl rfl (q_assign rfl) ?_
        refine vh_nil ?_
        refine wmh_ret ?_
        obtain rfl := (some_inj h).symm
        exact ⟨_, _, rh_one rfl rfl, sub_cuts (is := [1]) rfl, rfl, rfl⟩
def l87_2 (v1 : CCode) (v4 : Int) (v5 : Int) : List CAlt → Unit → Option (LR Unit Bool)
| [], _ =>
some (.go ())
| v24 :: l, _ =>
if (decide (v24.to < v4)) then
some (.ret false)
else
if (decide (v5 ≤ v24.to)) then
some (.ret false)
else
if (decide (v24.take = 1)) then
if (decide ((v1.tags.length : Int) ≤ v24.tag)) then
some (.ret false)
else
l87_2 v1 v4 v5 l ()
else
l87_2 v1 v4 v5 l ()
def l87_1 (v1 : CCode) (v2 : CIns) (v3 : Int) : List CVal → Unit → Option (LR Unit Bool)
| [], _ =>
some (.go ())
| v27 :: l, _ =>
if (decide (v27.kind = 0)) then
if (decide (v27.n < 0)) then
some (.ret false)
else
if (decide (v3 ≤ v27.n)) then
some (.ret false)
else
if (!decide (v27.kind = 0)) then
(p119 v1 v2) >>= fun v32 =>
if (!v32) then
some (.ret false)
else
l87_1 v1 v2 v3 l ()
else
l87_1 v1 v2 v3 l ()
else
if (!decide (v27.kind = 0)) then
(p119 v1 v2) >>= fun v33 =>
if (!v33) then
some (.ret false)
else
l87_1 v1 v2 v3 l ()
else
l87_1 v1 v2 v3 l ()
def p87 : CCode → CIns → Int → Int → Int → Option Bool
| v1, v2, v3, v4, v5 =>
(p118 v1 v2) >>= fun v9 =>
if (!decide (v9 = (v2.vals.length : Int))) then
some false
else
if (decide ((if v3 < 1 then 1 else v3) ≤ v2.to)) then
some false
else
if (decide (v2.n < 0)) then
some false
else
if (!((decide (0 < (v2.alts.length : Int))) == (decide (v2.op = 9)))) then
some false
else
(l87_1 v1 v2 v3 v2.vals ()) >>= fun rr57 =>
(match rr57 with
| .go _ =>
(l87_2 v1 v4 v5 v2.alts ()) >>= fun rr79 =>
(match rr79 with
| .go _ =>
if (decide (0 < v3)) then
some true
else
(p86 v2.op) >>= fun v23 =>
if v23 then
some true
else
some (decide (v2.op = 3))
| .ret rv =>
some rv)
| .ret rv =>
some rv)
theorem c87 [ErrC] {v1 : CCode} {v2 : CIns} {v3 : Int} {v4 : Int} {v5 : Int} {r : Bool} (h : p87 v1 v2 v3 v4 v5 = some r) (τ : Store) : CMH Tryd.prog 87 [.ref (CCode.A v1) 0, .agg [iA v2.op, iA v2.to, iA v2.tag, iA v2.fn, iA v2.n, sA v2.prim, slA 2 CVal.A v2.vals, slA 4 CAlt.A v2.alts], iA v3, iA v4, iA v5] [.frm τ] (Ret1 (.sc (.bool r)) [] τ) := by
  rw [p87.eq_1] at h
  refine ch_enter Tryd.func87 rfl Tryd.ntmps87 rfl ?_
  refine wmh_seq ?_
  refine wmh_region ?_
  refine wh_l rfl rfl (oh_box (n := 8) rfl rfl rfl (fun k7 => ?_))
  refine wh_q rfl rfl (q_assign rfl) ?_
  refine wh_nil ?_
  refine wmh_seq ?_
  refine wmh_seq ?_
  refine wmh_drawn _ [2] [0, 1, 3, 4, 5, 2, 6, 7, 8, 9, 10, 11, 12, 13, 14, 15, 16, 17, 18, 19, 20, 21, 22, 23, 24, 25, 26, 27, 28] mixed (by kernel_rfl) (sub_cuts (is := [0]) rfl) ?_
  refine vh_q rfl rfl rfl rfl (q_move rfl) ?_
  refine vh_q rfl rfl rfl rfl (q_load_own ty105 rfl (i := 0) rfl (pick_all rfl)) ?_
  refine vh_q rfl rfl rfl rfl (q_fieldAddr_own fl105_6 rfl) ?_
  refine vh_q rfl rfl rfl rfl (q_load_own ty102 rfl (i := 0) rfl rfl) ?_
  refine vh_q rfl rfl rfl rfl (q_len_slA Tryd.underlying102 rfl) ?_
  obtain ⟨v9, hb4, h⟩ := obind h
  refine vh_l rfl rfl rfl rfl (oh_call1 [] fn118 rfl rfl (fun τ hτ => c118 hb4 τ) ⟨.inr (sub_cuts (is := [0]) rfl), ?_⟩)
  refine vh_q rfl rfl rfl rfl (q_bin rfl rfl rfl) ?_
  refine vh_q rfl rfl rfl rfl (q_move rfl) ?_
  refine vh_ite (t := 22) rfl h (fun hc5 h => ?_) (fun hc5 h => ?_)
  · refine vh_sk (sub_cuts (is := [0]) rfl) rfl rfl rfl ?_
    refine vh_sk (sub_cuts (is := [0]) rfl) rfl rfl rfl ?_
    refine vh_sk (sub_cuts (is := [0]) rfl) rfl rfl rfl ?_
    refine vh_sk (sub_cuts (is := [0]) rfl) rfl rfl rfl ?_
    refine vh_sk (sub_cuts (is := [0]) rfl) rfl rfl rfl ?_
    refine vh_q rfl rfl rfl rfl (q_pick_t rfl rfl) ?_
    refine vh_q rfl rfl rfl rfl (q_move rfl) ?_
    refine vh_sk (sub_cuts (is := [0]) rfl) rfl rfl rfl ?_
    refine vh_sk (sub_cuts (is := [0]) rfl) rfl rfl rfl ?_
    refine vh_sk (sub_cuts (is := [0]) rfl) rfl rfl rfl ?_
    refine vh_q rfl rfl rfl rfl (q_pick_t rfl rfl) ?_
    refine vh_q rfl rfl rfl rfl (q_move rfl) ?_
    refine vh_sk (sub_cuts (is := [0]) rfl) rfl rfl rfl ?_
    refine vh_sk (sub_cuts (is := [0]) rfl) rfl rfl rfl ?_
    refine vh_sk (sub_cuts (is := [0]) rfl) rfl rfl rfl ?_
    refine vh_sk (sub_cuts (is := [0]) rfl) rfl rfl rfl ?_
    refine vh_sk (sub_cuts (is := [0]) rfl) rfl rfl rfl ?_
    refine vh_sk (sub_cuts (is := [0]) rfl) rfl rfl rfl ?_
    refine vh_sk (sub_cuts (is := [0]) rfl) rfl rfl rfl ?_
    refine vh_sk (sub_cuts (is := [0]) rfl) rfl rfl rfl ?_
    refine vh_q rfl rfl rfl rfl (q_pick_t rfl rfl) ?_
    refine vh_nil ?_
    refine wmh_cond_t rfl ?_
    refine wmh_seq ?_
    refine wmh_region ?_
    refine wh_q rfl rfl (q_assign rfl) ?_
    refine wh_nil ?_
    refine wmh_ret ?_
    obtain rfl := (some_inj h).symm
    exact ⟨_, _, rh_one rfl rfl, sub_cuts (is := [1]) rfl, rfl, rfl⟩
  · refine vh_q rfl rfl rfl rfl (q_fieldAddr_own fl105_1 rfl) ?_
    refine vh_q rfl rfl rfl rfl (q_load_own ty3 rfl (i := 0) rfl rfl) ?_
    refine vh_q rfl rfl rfl rfl (q_move rfl) ?_
    refine vh_q rfl rfl rfl rfl (q_max rfl rfl) ?_
    refine vh_q rfl rfl rfl rfl (q_bin rfl rfl rfl) ?_
    refine vh_q rfl rfl rfl rfl (q_pick_f rfl rfl) ?_
    refine vh_q rfl rfl rfl rfl (q_move rfl) ?_
    refine vh_ite (t := 29) rfl h (fun hc6 h => ?_) (fun hc6 h => ?_)
    · refine vh_sk (sub_cuts (is := [0]) rfl) rfl rfl rfl ?_
      refine vh_sk (sub_cuts (is := [0]) rfl) rfl rfl rfl ?_
      refine vh_sk (sub_cuts (is := [0]) rfl) rfl rfl rfl ?_
      refine vh_q rfl rfl rfl rfl (q_pick_t rfl rfl) ?_
      refine vh_q rfl rfl rfl rfl (q_move rfl) ?_
      refine vh_sk (sub_cuts (is := [0]) rfl) rfl rfl rfl ?_
      refine vh_sk (sub_cuts (is := [0]) rfl) rfl rfl rfl ?_
      refine vh_sk (sub_cuts (is := [0]) rfl) rfl rfl rfl ?_
      refine vh_sk (sub_cuts (is := [0]) rfl) rfl rfl rfl ?_
      refine vh_sk (sub_cuts (is := [0]) rfl) rfl rfl rfl ?_
      refine vh_sk (sub_cuts (is := [0]) rfl) rfl rfl rfl ?_
      refine vh_sk (sub_cuts (is := [0]) rfl) rfl rfl rfl ?_
      refine vh_sk (sub_cuts (is := [0]) rfl) rfl rfl rfl ?_
      refine vh_q rfl rfl rfl rfl (q_pick_t rfl rfl) ?_
      refine vh_nil ?_
      refine wmh_cond_t rfl ?_
      refine wmh_seq ?_
      refine wmh_region ?_
      refine wh_q rfl rfl (q_assign rfl) ?_
      refine wh_nil ?_
      refine wmh_ret ?_
      obtain rfl := (some_inj h).symm
      exact ⟨_, _, rh_one rfl rfl, sub_cuts (is := [1]) rfl, rfl, rfl⟩
    · refine vh_q rfl rfl rfl rfl (q_fieldAddr_own fl105_4 rfl) ?_
      refine vh_q rfl rfl rfl rfl (q_load_own ty2 rfl (i := 0) rfl rfl) ?_
      refine vh_q rfl rfl rfl rfl (q_bin rfl rfl rfl) ?_
      refine vh_q rfl rfl rfl rfl (q_pick_f rfl rfl) ?_
      refine vh_q rfl rfl rfl rfl (q_move rfl) ?_
      refine vh_ite (t := 34) rfl h (fun hc7 h => ?_) (fun hc7 h => ?_)
      · refine vh_sk (sub_cuts (is := [0]) rfl) rfl rfl rfl ?_
        refine vh_sk (sub_cuts (is := [0]) rfl) rfl rfl rfl ?_
        refine vh_sk (sub_cuts (is := [0]) rfl) rfl rfl rfl ?_
        refine vh_sk (sub_cuts (is := [0]) rfl) rfl rfl rfl ?_
        refine vh_sk (sub_cuts (is := [0]) rfl) rfl rfl rfl ?_
        refine vh_sk (sub_cuts (is := [0]) rfl) rfl rfl rfl ?_
        refine vh_sk (sub_cuts (is := [0]) rfl) rfl rfl rfl ?_
        refine vh_sk (sub_cuts (is := [0]) rfl) rfl rfl rfl ?_
        refine vh_q rfl rfl rfl rfl (q_pick_t rfl rfl) ?_
        refine vh_nil ?_
        refine wmh_cond_t rfl ?_
        refine wmh_seq ?_
        refine wmh_region ?_
        refine wh_q rfl rfl (q_assign rfl) ?_
        refine wh_nil ?_
        refine wmh_ret ?_
        obtain rfl := (some_inj h).symm
        exact ⟨_, _, rh_one rfl rfl, sub_cuts (is := [1]) rfl, rfl, rfl⟩
      · refine vh_q rfl rfl rfl rfl (q_fieldAddr_own fl105_7 rfl) ?_
        refine vh_q rfl rfl rfl rfl (q_load_own ty103 rfl (i := 0) rfl rfl) ?_
        refine vh_q rfl rfl rfl rfl (q_len_slA Tryd.underlying103 rfl) ?_
        refine vh_q rfl rfl rfl rfl (q_bin rfl rfl rfl) ?_
        refine vh_q rfl rfl rfl rfl (q_fieldAddr_own fl105_0 rfl) ?_
        refine vh_q rfl rfl rfl rfl (q_load_own ty3 rfl (i := 0) rfl rfl) ?_
        refine vh_q rfl rfl rfl rfl (q_bin rfl rfl rfl) ?_
        refine vh_q rfl rfl rfl rfl (q_neb Tryd.underlying4 rfl rfl) ?_
        refine vh_q rfl rfl rfl rfl (q_pick_f rfl rfl) ?_
        refine vh_nil ?_
        refine wmh_ite rfl h (fun hc8 h => ?_) (fun hc8 h => ?_)
        · refine wmh_seq ?_
          refine wmh_region ?_
          refine wh_q rfl rfl (q_assign rfl) ?_
          refine wh_nil ?_
          refine wmh_ret ?_
          obtain rfl := (some_inj h).symm
          exact ⟨_, _, rh_one rfl rfl, sub_cuts (is := [1]) rfl, rfl, rfl⟩
        · refine wmh_skip ?_
          refine wmh_seq ?_
          refine wmh_seq ?_
          refine wmh_region ?_
          refine wh_q rfl rfl (q_fieldAddr_own fl105_6 rfl) ?_
          refine wh_q rfl rfl (q_load_own ty102 rfl (i := 0) rfl rfl) ?_
          refine wh_q rfl rfl (q_len_slA Tryd.underlying102 rfl) ?_
          refine wh_q rfl rfl (q_move rfl) ?_
          refine wh_nil ?_
          obtain ⟨rr57, hr57, h⟩ := obind h
          refine wmh_block ?_
          refine wmh_loopL (fun l s L H => match s with | _ => ∃ (j : Nat) (v10 : Int) , v10 = (j : Int) ∧ v2.vals.drop j = l ∧ Sub [(0, .ref (CCode.A v1) 0), (2, iA v3), (3, iA v4), (4, iA v5), (6, .sc (.pointer (some ⟨k7, 0, none⟩))), (19, slA 2 CVal.A v2.vals), (45, slA 2 CVal.A v2.vals), (46, iA (v2.vals.length : Int)), (47, iA v10)] L ∧ SubH [.blk k7 (.cells 105 8 [iA v2.op, iA v2.to, iA v2.tag, iA v2.fn, iA v2.n, sA v2.prim, slA 2 CVal.A v2.vals, slA 4 CAlt.A v2.alts]), .frm τ] H) (fun r e L H => match r with | .go _ =>  e = .exit 0 ∧ Sub [(0, .ref (CCode.A v1) 0), (2, iA v3), (3, iA v4), (4, iA v5), (6, .sc (.pointer (some ⟨k7, 0, none⟩)))] L ∧ SubH [.blk k7 (.cells 105 8 [iA v2.op, iA v2.to, iA v2.tag, iA v2.fn, iA v2.n, sA v2.prim, slA 2 CVal.A v2.vals, slA 4 CAlt.A v2.alts]), .frm τ] H | .ret rv => e = .ret ∧ RetRel Tryd.prog Tryd.f87 122 (Ret1 (.sc (.bool rv)) [] τ) L H) hr57 ⟨0, 0, rfl, rfl, (sub_of ⟨rfl, rfl, rfl, rfl, rfl, rfl, rfl, rfl, rfl, trivial⟩), (sub_cuts (is := [0, 0]) rfl)⟩ ?_ ?_
          · intro e L H hp
            obtain _ | rv := rr57
            · obtain ⟨rfl, hs, hh⟩ := hp
              refine wmh_sub hs hh ?_
              refine wmh_seq ?_
              refine wmh_seq ?_
              refine wmh_region ?_
              refine wh_q rfl rfl (q_fieldAddr_own fl105_7 rfl) ?_
              refine wh_q rfl rfl (q_load_own ty103 rfl (i := 0) rfl rfl) ?_
              refine wh_q rfl rfl (q_len_slA Tryd.underlying103 rfl) ?_
              refine wh_q rfl rfl (q_move rfl) ?_
              refine wh_nil ?_
              obtain ⟨rr79, hr79, h⟩ := obind h
              refine wmh_block ?_
              refine wmh_loopL (fun l s L H => match s with | _ => ∃ (j : Nat) (v18 : Int) , v18 = (j : Int) ∧ v2.alts.drop j = l ∧ Sub [(0, .ref (CCode.A v1) 0), (2, iA v3), (3, iA v4), (4, iA v5), (6, .sc (.pointer (some ⟨k7, 0, none⟩))), (78, slA 4 CAlt.A v2.alts), (79, iA (v2.alts.length : Int)), (80, iA v18)] L ∧ SubH [.blk k7 (.cells 105 8 [iA v2.op, iA v2.to, iA v2.tag, iA v2.fn, iA v2.n, sA v2.prim, slA 2 CVal.A v2.vals, slA 4 CAlt.A v2.alts]), .frm τ] H) (fun r e L H => match r with | .go _ =>  e = .exit 2 ∧ Sub [(2, iA v3), (6, .sc (.pointer (some ⟨k7, 0, none⟩)))] L ∧ SubH [.blk k7 (.cells 105 8 [iA v2.op, iA v2.to, iA v2.tag, iA v2.fn, iA v2.n, sA v2.prim, slA 2 CVal.A v2.vals, slA 4 CAlt.A v2.alts]), .frm τ] H | .ret rv => e = .ret ∧ RetRel Tryd.prog Tryd.f87 122 (Ret1 (.sc (.bool rv)) [] τ) L H) hr79 ⟨0, 0, rfl, rfl, (sub_of ⟨rfl, rfl, rfl, rfl, rfl, rfl, rfl, rfl, trivial⟩), (sub_cuts (is := [0, 0]) rfl)⟩ ?_ ?_
              · intro e L H hp
                obtain _ | rv := rr79
                · obtain ⟨rfl, hs, hh⟩ := hp
                  refine wmh_sub hs hh ?_
                  refine wmh_seq ?_
                  refine wmh_region ?_
                  refine wh_q rfl rfl (q_move rfl) ?_
                  refine wh_q rfl rfl (q_bin rfl rfl rfl) ?_
                  refine wh_q rfl rfl (q_move rfl) ?_
                  refine wh_ite (t := 112) rfl h (fun hc83 h => ?_) (fun hc83 h => ?_)
                  · refine wh_sk rfl rfl ?_
                    refine wh_sk rfl rfl ?_
                    refine wh_sk rfl rfl ?_
                    refine wh_q rfl rfl (q_pick_t rfl rfl) ?_
                    refine wh_q rfl rfl (q_move rfl) ?_
                    refine wh_sk rfl rfl ?_
                    refine wh_sk rfl rfl ?_
                    refine wh_sk rfl rfl ?_
                    refine wh_q rfl rfl (q_pick_t rfl rfl) ?_
                    refine wh_q rfl rfl (q_assign rfl) ?_
                    refine wh_nil ?_
                    refine wmh_ret ?_
                    obtain rfl := (some_inj h).symm
                    exact ⟨_, _, rh_one rfl rfl, sub_cuts (is := [1]) rfl, rfl, rfl⟩
                  · refine wh_q rfl rfl (q_fieldAddr_own fl105_0 rfl) ?_
                    refine wh_q rfl rfl (q_load_own ty3 rfl (i := 0) rfl rfl) ?_
                    obtain ⟨v23, hb84, h⟩ := obind h
                    refine wh_l rfl rfl (oh_call1 [] fn86 rfl rfl (fun τ hτ => c86 hb84 τ) ?_)
                    refine wh_q rfl rfl (q_pick_f rfl rfl) ?_
                    refine wh_q rfl rfl (q_move rfl) ?_
                    refine wh_ite (t := 117) rfl h (fun hc85 h => ?_) (fun hc85 h => ?_)
                    · refine wh_sk rfl rfl ?_
                      refine wh_sk rfl rfl ?_
                      refine wh_sk rfl rfl ?_
                      refine wh_q rfl rfl (q_pick_t rfl rfl) ?_
                      refine wh_q rfl rfl (q_assign rfl) ?_
                      refine wh_nil ?_
                      refine wmh_ret ?_
                      obtain rfl := (some_inj h).symm
                      exact ⟨_, _, rh_one rfl rfl, sub_cuts (is := [1]) rfl, rfl, rfl⟩
                    · refine wh_q rfl rfl (q_fieldAddr_own fl105_0 rfl) ?_
                      refine wh_q rfl rfl (q_load_own ty3 rfl (i := 0) rfl rfl) ?_
                      refine wh_q rfl rfl (q_bin rfl rfl rfl) ?_
                      refine wh_q rfl rfl (q_pick_f rfl rfl) ?_
                      refine wh_q rfl rfl (q_assign rfl) ?_
                      refine wh_nil ?_
                      refine wmh_ret ?_
                      obtain rfl := (some_inj h).symm
                      exact ⟨_, _, rh_one rfl rfl, sub_cuts (is := [1]) rfl, rfl, rfl⟩
                · obtain ⟨rfl, hp⟩ := hp
                  obtain rfl := (some_inj h).symm
                  exact hp
              · rintro l _ r h L H hp
                obtain ⟨j, v18, hi, hd, hs, hh⟩ := hp
                refine wmh_sub hs hh ?_
                refine wmh_len (s := 78) rfl (fun hl => ?_)
                obtain _ | ⟨v24, l⟩ := l
                · have hj := drop_end hd
                  rw [l87_2.eq_1] at h
                  refine wmh_seq ?_
                  refine wmh_region ?_
                  refine wh_q rfl rfl (q_bin rfl rfl rfl) ?_
                  refine wh_nil ?_
                  refine wmh_seq ?_
                  refine wmh_cond rfl (fun hc => ?_) (fun hc => ?_)
                  · exfalso; have := of_decide_eq_true hc; omega
                  · refine wmh_exit ?_
                    obtain rfl := (some_inj h).symm
                    exact ⟨rfl, (sub_of ⟨rfl, rfl, trivial⟩), (sub_cuts (is := [0, 0]) rfl)⟩
                · obtain ⟨hat, hj, hd⟩ := at_drop hd
                  rw [← hi] at hat
                  rw [l87_2.eq_2] at h
                  refine wmh_seq ?_
                  refine wmh_region ?_
                  refine wh_q rfl rfl (q_bin rfl rfl rfl) ?_
                  refine wh_nil ?_
                  refine wmh_seq ?_
                  refine wmh_cond rfl (fun hc => ?_) (fun hc => ?_)
                  · refine wmh_skip ?_
                    refine wmh_seq ?_
                    refine wmh_block ?_
                    refine wmh_seq ?_
                    refine wmh_region ?_
                    refine wh_q rfl rfl (q_index el103 rfl rfl hat) ?_
                    refine wh_q rfl rfl (q_load_ref ty110 rfl rfl (pick_all rfl)) ?_
                    refine wh_l rfl rfl (oh_alloc (n := 4) (cs := [.sc (.int .i64 0), .sc (.int .i64 0), .sc (.int .i64 0), .sc (.int .i64 0)]) ze110 rfl rfl (fun k26 => ?_))
                    refine wh_n rfl (oh_store (i := 0) [iA v24.take, iA v24.tag, iA v24.to, iA v24.n] ty110 rfl rfl rfl rfl rfl rfl rfl ?_)
                    refine wh_nil ?_
                    refine wmh_seq ?_
                    refine wmh_drawn _ [] [0, 1, 2, 3, 4, 5, 6, 7, 8, 9, 10, 11, 12, 13, 14, 15, 16, 17, 18, 19, 20, 21, 22, 23, 24] mixed (by kernel_rfl) (sub_cuts (is := [0]) rfl) ?_
                    refine vh_q rfl rfl rfl rfl (q_fieldAddr_own fl110_2 rfl) ?_
                    refine vh_q rfl rfl rfl rfl (q_load_own ty3 rfl (i := 0) rfl rfl) ?_
                    refine vh_q rfl rfl rfl rfl (q_move rfl) ?_
                    refine vh_q rfl rfl rfl rfl (q_bin rfl rfl rfl) ?_
                    refine vh_q rfl rfl rfl rfl (q_move rfl) ?_
                    refine vh_ite (t := 88) rfl h (fun hc89 h => ?_) (fun hc89 h => ?_)
                    · refine vh_sk (sub_cuts (is := [0]) rfl) rfl rfl rfl ?_
                      refine vh_sk (sub_cuts (is := [0]) rfl) rfl rfl rfl ?_
                      refine vh_sk (sub_cuts (is := [0]) rfl) rfl rfl rfl ?_
                      refine vh_sk (sub_cuts (is := [0]) rfl) rfl rfl rfl ?_
                      refine vh_q rfl rfl rfl rfl (q_pick_t rfl rfl) ?_
                      refine vh_q rfl rfl rfl rfl (q_move rfl) ?_
                      refine vh_sk (sub_cuts (is := [0]) rfl) rfl rfl rfl ?_
                      refine vh_sk (sub_cuts (is := [0]) rfl) rfl rfl rfl ?_
                      refine vh_sk (sub_cuts (is := [0]) rfl) rfl rfl rfl ?_
                      refine vh_sk (sub_cuts (is := [0]) rfl) rfl rfl rfl ?_
                      refine vh_sk (sub_cuts (is := [0]) rfl) rfl rfl rfl ?_
                      refine vh_sk (sub_cuts (is := [0]) rfl) rfl rfl rfl ?_
                      refine vh_sk (sub_cuts (is := [0]) rfl) rfl rfl rfl ?_
                      refine vh_sk (sub_cuts (is := [0]) rfl) rfl rfl rfl ?_
                      refine vh_sk (sub_cuts (is := [0]) rfl) rfl rfl rfl ?_
                      refine vh_sk (sub_cuts (is := [0]) rfl) rfl rfl rfl ?_
                      refine vh_sk (sub_cuts (is := [0]) rfl) rfl rfl rfl ?_
                      refine vh_sk (sub_cuts (is := [0]) rfl) rfl rfl rfl ?_
                      refine vh_sk (sub_cuts (is := [0]) rfl) rfl rfl rfl ?_
                      refine vh_q rfl rfl rfl rfl (q_pick_t rfl rfl) ?_
                      refine vh_nil ?_
                      refine wmh_cond_t rfl ?_
                      refine wmh_seq ?_
                      refine wmh_region ?_
                      refine wh_q rfl rfl (q_assign rfl) ?_
                      refine wh_nil ?_
                      refine wmh_ret ?_
                      obtain rfl := (some_inj h).symm
                      exact ⟨rfl, _, _, rh_one rfl rfl, sub_cuts (is := [2]) rfl, rfl, rfl⟩
                    · refine vh_q rfl rfl rfl rfl (q_fieldAddr_own fl110_2 rfl) ?_
                      refine vh_q rfl rfl rfl rfl (q_load_own ty3 rfl (i := 0) rfl rfl) ?_
                      refine vh_q rfl rfl rfl rfl (q_move rfl) ?_
                      refine vh_q rfl rfl rfl rfl (q_bin rfl rfl rfl) ?_
                      refine vh_q rfl rfl rfl rfl (q_pick_f rfl rfl) ?_
                      refine vh_q rfl rfl rfl rfl (q_move rfl) ?_
                      refine vh_ite (t := 94) rfl h (fun hc90 h => ?_) (fun hc90 h => ?_)
                      · refine vh_sk (sub_cuts (is := [0]) rfl) rfl rfl rfl ?_
                        refine vh_sk (sub_cuts (is := [0]) rfl) rfl rfl rfl ?_
                        refine vh_sk (sub_cuts (is := [0]) rfl) rfl rfl rfl ?_
                        refine vh_sk (sub_cuts (is := [0]) rfl) rfl rfl rfl ?_
                        refine vh_sk (sub_cuts (is := [0]) rfl) rfl rfl rfl ?_
                        refine vh_sk (sub_cuts (is := [0]) rfl) rfl rfl rfl ?_
                        refine vh_sk (sub_cuts (is := [0]) rfl) rfl rfl rfl ?_
                        refine vh_sk (sub_cuts (is := [0]) rfl) rfl rfl rfl ?_
                        refine vh_sk (sub_cuts (is := [0]) rfl) rfl rfl rfl ?_
                        refine vh_sk (sub_cuts (is := [0]) rfl) rfl rfl rfl ?_
                        refine vh_sk (sub_cuts (is := [0]) rfl) rfl rfl rfl ?_
                        refine vh_sk (sub_cuts (is := [0]) rfl) rfl rfl rfl ?_
                        refine vh_sk (sub_cuts (is := [0]) rfl) rfl rfl rfl ?_
                        refine vh_q rfl rfl rfl rfl (q_pick_t rfl rfl) ?_
                        refine vh_nil ?_
                        refine wmh_cond_t rfl ?_
                        refine wmh_seq ?_
                        refine wmh_region ?_
                        refine wh_q rfl rfl (q_assign rfl) ?_
                        refine wh_nil ?_
                        refine wmh_ret ?_
                        obtain rfl := (some_inj h).symm
                        exact ⟨rfl, _, _, rh_one rfl rfl, sub_cuts (is := [2]) rfl, rfl, rfl⟩
                      · refine vh_q rfl rfl rfl rfl (q_fieldAddr_own fl110_0 rfl) ?_
                        refine vh_q rfl rfl rfl rfl (q_load_own ty3 rfl (i := 0) rfl rfl) ?_
                        refine vh_q rfl rfl rfl rfl (q_bin rfl rfl rfl) ?_
                        refine vh_q rfl rfl rfl rfl (q_move rfl) ?_
                        refine vh_ite (t := 98) rfl h (fun hc91 h => ?_) (fun hc91 h => ?_)
                        · refine vh_q rfl rfl rfl rfl (q_fieldAddr_own fl110_1 rfl) ?_
                          refine vh_q rfl rfl rfl rfl (q_load_own ty3 rfl (i := 0) rfl rfl) ?_
                          refine vh_q rfl rfl rfl rfl (q_move rfl) ?_
                          refine vh_q rfl rfl rfl rfl (q_nilCheck_ref rfl) ?_
                          refine vh_q rfl rfl rfl rfl (q_fieldAddr_ref fl96_0 rfl) ?_
                          refine vh_q rfl rfl rfl rfl (q_load_ref ty92 rfl rfl rfl) ?_
                          refine vh_q rfl rfl rfl rfl (q_len_slA Tryd.underlying92 rfl) ?_
                          refine vh_q rfl rfl rfl rfl (q_bin rfl rfl rfl) ?_
                          refine vh_q rfl rfl rfl rfl (q_pick_t rfl rfl) ?_
                          refine vh_q rfl rfl rfl rfl (q_pick_f rfl rfl) ?_
                          refine vh_nil ?_
                          refine wmh_ite rfl h (fun hc92 h => ?_) (fun hc92 h => ?_)
                          · refine wmh_seq ?_
                            refine wmh_region ?_
                            refine wh_q rfl rfl (q_assign rfl) ?_
                            refine wh_nil ?_
                            refine wmh_ret ?_
                            obtain rfl := (some_inj h).symm
                            exact ⟨rfl, _, _, rh_one rfl rfl, sub_cuts (is := [2]) rfl, rfl, rfl⟩
                          · refine wmh_skip ?_
                            refine wmh_region ?_
                            refine wh_q rfl rfl (q_add1 rfl rfl (by omega)) ?_
                            refine wh_q rfl rfl (q_move rfl) ?_
                            refine wh_nil ?_
                            exact ⟨_, _, (), rfl, h, j + 1, v18 + 1, (by omega), hd, (sub_of ⟨rfl, rfl, rfl, rfl, rfl, rfl, rfl, rfl, trivial⟩), (sub_cuts (is := [1, 1]) rfl)⟩
                        · refine vh_sk (sub_cuts (is := [0]) rfl) rfl rfl rfl ?_
                          refine vh_sk (sub_cuts (is := [0]) rfl) rfl rfl rfl ?_
                          refine vh_sk (sub_cuts (is := [0]) rfl) rfl rfl rfl ?_
                          refine vh_sk (sub_cuts (is := [0]) rfl) rfl rfl rfl ?_
                          refine vh_sk (sub_cuts (is := [0]) rfl) rfl rfl rfl ?_
                          refine vh_sk (sub_cuts (is := [0]) rfl) rfl rfl rfl ?_
                          refine vh_sk (sub_cuts (is := [0]) rfl) rfl rfl rfl ?_
                          refine vh_sk (sub_cuts (is := [0]) rfl) rfl rfl rfl ?_
                          refine vh_q rfl rfl rfl rfl (q_pick_f rfl rfl) ?_
                          refine vh_q rfl rfl rfl rfl (q_pick_f rfl rfl) ?_
                          refine vh_nil ?_
                          refine wmh_cond_f rfl ?_
                          refine wmh_skip ?_
                          refine wmh_region ?_
                          refine wh_q rfl rfl (q_add1 rfl rfl (by omega)) ?_
                          refine wh_q rfl rfl (q_move rfl) ?_
                          refine wh_nil ?_
                          exact ⟨_, _, (), rfl, h, j + 1, v18 + 1, (by omega), hd, (sub_of ⟨rfl, rfl, rfl, rfl, rfl, rfl, rfl, rfl, trivial⟩), (sub_cuts (is := [1, 1]) rfl)⟩
                  · exfalso; have := of_decide_eq_false hc; omega
            · obtain ⟨rfl, hp⟩ := hp
              obtain rfl := (some_inj h).symm
              exact hp
          · rintro l _ r h L H hp
            obtain ⟨j, v10, hi, hd, hs, hh⟩ := hp
            refine wmh_sub hs hh ?_
            refine wmh_len (s := 19) rfl (fun hl => ?_)
            obtain _ | ⟨v27, l⟩ := l
            · have hj := drop_end hd
              rw [l87_1.eq_1] at h
              refine wmh_seq ?_
              refine wmh_region ?_
              refine wh_q rfl rfl (q_bin rfl rfl rfl) ?_
              refine wh_nil ?_
              refine wmh_seq ?_
              refine wmh_cond rfl (fun hc => ?_) (fun hc => ?_)
              · exfalso; have := of_decide_eq_true hc; omega
              · refine wmh_exit ?_
                obtain rfl := (some_inj h).symm
                exact ⟨rfl, (sub_of ⟨rfl, rfl, rfl, rfl, rfl, trivial⟩), (sub_cuts (is := [0, 0]) rfl)⟩
            · obtain ⟨hat, hj, hd⟩ := at_drop hd
              rw [← hi] at hat
              rw [l87_1.eq_2] at h
              refine wmh_seq ?_
              refine wmh_region ?_
              refine wh_q rfl rfl (q_bin rfl rfl rfl) ?_
              refine wh_nil ?_
              refine wmh_seq ?_
              refine wmh_cond rfl (fun hc => ?_) (fun hc => ?_)
              · refine wmh_skip ?_
                refine wmh_seq ?_
                refine wmh_block ?_
                refine wmh_seq ?_
                refine wmh_region ?_
                refine wh_q rfl rfl (q_index el102 rfl rfl hat) ?_
                refine wh_q rfl rfl (q_load_ref ty108 rfl rfl (pick_all rfl)) ?_
                refine wh_l rfl rfl (oh_alloc (n := 2) (cs := [.sc (.int .i64 0), .sc (.int .i64 0)]) ze108 rfl rfl (fun k29 => ?_))
                refine wh_n rfl (oh_store (i := 0) [iA v27.kind, iA v27.n] ty108 rfl rfl rfl rfl rfl rfl rfl ?_)
                refine wh_nil ?_
                refine wmh_seq ?_
                refine wmh_region ?_
                refine wh_q rfl rfl (q_fieldAddr_own fl108_0 rfl) ?_
                refine wh_q rfl rfl (q_load_own ty3 rfl (i := 0) rfl rfl) ?_
                refine wh_q rfl rfl (q_bin rfl rfl rfl) ?_
                refine wh_q rfl rfl (q_move rfl) ?_
                refine wh_ite (t := 54) rfl h (fun hc100 h => ?_) (fun hc100 h => ?_)
                · refine wh_q rfl rfl (q_fieldAddr_own fl108_1 rfl) ?_
                  refine wh_q rfl rfl (q_load_own ty2 rfl (i := 0) rfl rfl) ?_
                  refine wh_q rfl rfl (q_bin rfl rfl rfl) ?_
                  refine wh_q rfl rfl (q_move rfl) ?_
                  refine wh_ite (t := 58) rfl h (fun hc101 h => ?_) (fun hc101 h => ?_)
                  · refine wh_sk rfl rfl ?_
                    refine wh_sk rfl rfl ?_
                    refine wh_sk rfl rfl ?_
                    refine wh_sk rfl rfl ?_
                    refine wh_q rfl rfl (q_pick_t rfl rfl) ?_
                    refine wh_q rfl rfl (q_pick_t rfl rfl) ?_
                    refine wh_q rfl rfl (q_move rfl) ?_
                    refine wh_sk rfl rfl ?_
                    refine wh_sk rfl rfl ?_
                    refine wh_sk rfl rfl ?_
                    refine wh_sk rfl rfl ?_
                    refine wh_sk rfl rfl ?_
                    refine wh_sk rfl rfl ?_
                    refine wh_sk rfl rfl ?_
                    refine wh_sk rfl rfl ?_
                    refine wh_sk rfl rfl ?_
                    refine wh_q rfl rfl (q_pick_t rfl rfl) ?_
                    refine wh_nil ?_
                    refine wmh_cond_t rfl ?_
                    refine wmh_seq ?_
                    refine wmh_region ?_
                    refine wh_q rfl rfl (q_assign rfl) ?_
                    refine wh_nil ?_
                    refine wmh_ret ?_
                    obtain rfl := (some_inj h).symm
                    exact ⟨rfl, _, _, rh_one rfl rfl, sub_cuts (is := [2]) rfl, rfl, rfl⟩
                  · refine wh_q rfl rfl (q_fieldAddr_own fl108_1 rfl) ?_
                    refine wh_q rfl rfl (q_load_own ty2 rfl (i := 0) rfl rfl) ?_
                    refine wh_q rfl rfl (q_move rfl) ?_
                    refine wh_q rfl rfl (q_bin rfl rfl rfl) ?_
                    refine wh_q rfl rfl (q_pick_f rfl rfl) ?_
                    refine wh_q rfl rfl (q_pick_t rfl rfl) ?_
                    refine wh_q rfl rfl (q_move rfl) ?_
                    refine wh_ite (t := 65) rfl h (fun hc102 h => ?_) (fun hc102 h => ?_)
                    · refine wh_sk rfl rfl ?_
                      refine wh_sk rfl rfl ?_
                      refine wh_sk rfl rfl ?_
                      refine wh_sk rfl rfl ?_
                      refine wh_sk rfl rfl ?_
                      refine wh_sk rfl rfl ?_
                      refine wh_sk rfl rfl ?_
                      refine wh_sk rfl rfl ?_
                      refine wh_sk rfl rfl ?_
                      refine wh_q rfl rfl (q_pick_t rfl rfl) ?_
                      refine wh_nil ?_
                      refine wmh_cond_t rfl ?_
                      refine wmh_seq ?_
                      refine wmh_region ?_
                      refine wh_q rfl rfl (q_assign rfl) ?_
                      refine wh_nil ?_
                      refine wmh_ret ?_
                      obtain rfl := (some_inj h).symm
                      exact ⟨rfl, _, _, rh_one rfl rfl, sub_cuts (is := [2]) rfl, rfl, rfl⟩
                    · refine wh_q rfl rfl (q_fieldAddr_own fl108_0 rfl) ?_
                      refine wh_q rfl rfl (q_load_own ty3 rfl (i := 0) rfl rfl) ?_
                      refine wh_q rfl rfl (q_bin rfl rfl rfl) ?_
                      refine wh_q rfl rfl (q_move rfl) ?_
                      refine wh_ite (t := 69) rfl h (fun hc103 h => ?_) (fun hc103 h => ?_)
                      · refine wh_q rfl rfl (q_move rfl) ?_
                        refine wh_q rfl rfl (q_load_own ty105 rfl (i := 1) rfl (pick_all rfl)) ?_
                        obtain ⟨v32, hb104, h⟩ := obind h
                        refine wh_l rfl rfl (oh_call1 [] fn119 rfl rfl (fun τ hτ => c119 hb104 τ) ?_)
                        refine wh_q rfl rfl (q_not rfl) ?_
                        refine wh_q rfl rfl (q_pick_t rfl rfl) ?_
                        refine wh_q rfl rfl (q_pick_f rfl rfl) ?_
                        refine wh_nil ?_
                        refine wmh_ite rfl h (fun hc105 h => ?_) (fun hc105 h => ?_)
                        · refine wmh_seq ?_
                          refine wmh_region ?_
                          refine wh_q rfl rfl (q_assign rfl) ?_
                          refine wh_nil ?_
                          refine wmh_ret ?_
                          obtain rfl := (some_inj h).symm
                          exact ⟨rfl, _, _, rh_one rfl rfl, sub_cuts (is := [2]) rfl, rfl, rfl⟩
                        · refine wmh_skip ?_
                          refine wmh_region ?_
                          refine wh_q rfl rfl (q_add1 rfl rfl (by omega)) ?_
                          refine wh_q rfl rfl (q_move rfl) ?_
                          refine wh_nil ?_
                          exact ⟨_, _, (), rfl, h, j + 1, v10 + 1, (by omega), hd, (sub_of ⟨rfl, rfl, rfl, rfl, rfl, rfl, rfl, rfl, rfl, trivial⟩), (sub_cuts (is := [1, 1]) rfl)⟩
                      · refine wh_sk rfl rfl ?_
                        refine wh_sk rfl rfl ?_
                        refine wh_sk rfl rfl ?_
                        refine wh_sk rfl rfl ?_
                        refine wh_q rfl rfl (q_pick_f rfl rfl) ?_
                        refine wh_q rfl rfl (q_pick_f rfl rfl) ?_
                        refine wh_nil ?_
                        refine wmh_cond_f rfl ?_
                        refine wmh_skip ?_
                        refine wmh_region ?_
                        refine wh_q rfl rfl (q_add1 rfl rfl (by omega)) ?_
                        refine wh_q rfl rfl (q_move rfl) ?_
                        refine wh_nil ?_
                        exact ⟨_, _, (), rfl, h, j + 1, v10 + 1, (by omega), hd, (sub_of ⟨rfl, rfl, rfl, rfl, rfl, rfl, rfl, rfl, rfl, trivial⟩), (sub_cuts (is := [1, 1]) rfl)⟩
                · refine wh_sk rfl rfl ?_
                  refine wh_sk rfl rfl ?_
                  refine wh_sk rfl rfl ?_
                  refine wh_sk rfl rfl ?_
                  refine wh_sk rfl rfl ?_
                  refine wh_sk rfl rfl ?_
                  refine wh_sk rfl rfl ?_
                  refine wh_sk rfl rfl ?_
                  refine wh_sk rfl rfl ?_
                  refine wh_q rfl rfl (q_pick_f rfl rfl) ?_
                  refine wh_q rfl rfl (q_move rfl) ?_
                  refine wh_q rfl rfl (q_fieldAddr_own fl108_0 rfl) ?_
                  refine wh_q rfl rfl (q_load_own ty3 rfl (i := 0) rfl rfl) ?_
                  refine wh_q rfl rfl (q_bin rfl rfl rfl) ?_
                  refine wh_q rfl rfl (q_move rfl) ?_
                  refine wh_ite (t := 69) rfl h (fun hc106 h => ?_) (fun hc106 h => ?_)
                  · refine wh_q rfl rfl (q_move rfl) ?_
                    refine wh_q rfl rfl (q_load_own ty105 rfl (i := 1) rfl (pick_all rfl)) ?_
                    obtain ⟨v33, hb107, h⟩ := obind h
                    refine wh_l rfl rfl (oh_call1 [] fn119 rfl rfl (fun τ hτ => c119 hb107 τ) ?_)
                    refine wh_q rfl rfl (q_not rfl) ?_
                    refine wh_q rfl rfl (q_pick_t rfl rfl) ?_
                    refine wh_q rfl rfl (q_pick_f rfl rfl) ?_
                    refine wh_nil ?_
                    refine wmh_ite rfl h (fun hc108 h => ?_) (fun hc108 h => ?_)
                    · refine wmh_seq ?_
                      refine wmh_region ?_
                      refine wh_q rfl rfl (q_assign rfl) ?_
                      refine wh_nil ?_
                      refine wmh_ret ?_
                      obtain rfl := (some_inj h).symm
                      exact ⟨rfl, _, _, rh_one rfl rfl, sub_cuts (is := [2]) rfl, rfl, rfl⟩
                    · refine wmh_skip ?_
                      refine wmh_region ?_
                      refine wh_q rfl rfl (q_add1 rfl rfl (by omega)) ?_
                      refine wh_q rfl rfl (q_move rfl) ?_
                      refine wh_nil ?_
                      exact ⟨_, _, (), rfl, h, j + 1, v10 + 1, (by omega), hd, (sub_of ⟨rfl, rfl, rfl, rfl, rfl, rfl, rfl, rfl, rfl, trivial⟩), (sub_cuts (is := [1, 1]) rfl)⟩
                  · refine wh_sk rfl rfl ?_
                    refine wh_sk rfl rfl ?_
                    refine wh_sk rfl rfl ?_
                    refine wh_sk rfl rfl ?_
                    refine wh_q rfl rfl (q_pick_f rfl rfl) ?_
                    refine wh_q rfl rfl (q_pick_f rfl rfl) ?_
                    refine wh_nil ?_
                    refine wmh_cond_f rfl ?_
                    refine wmh_skip ?_
                    refine wmh_region ?_
                    refine wh_q rfl rfl (q_add1 rfl rfl (by omega)) ?_
                    refine wh_q rfl rfl (q_move rfl) ?_
                    refine wh_nil ?_
                    exact ⟨_, _, (), rfl, h, j + 1, v10 + 1, (by omega), hd, (sub_of ⟨rfl, rfl, rfl, rfl, rfl, rfl, rfl, rfl, rfl, trivial⟩), (sub_cuts (is := [1, 1]) rfl)⟩
              · exfalso; have := of_decide_eq_false hc; omega
end Go.Gw
