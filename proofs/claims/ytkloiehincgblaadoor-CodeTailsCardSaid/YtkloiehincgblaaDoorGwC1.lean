/- Part of the proof: GwC1. -/
import Derived.Test.YtkloiehincgblaaDoorGwC0
import Derived.Test.YtkloiehincgblaaDoorProg
import Derived.KernelRfl
set_option linter.unusedSimpArgs false
set_option linter.unusedVariables false
set_option maxRecDepth 100000
set_option maxHeartbeats 4000000
namespace Go.Gw
open Go.Proofs Go.Gw
def l117_1 (v2 : GErr) (s : Int × Int × (List UInt8)) : Option (LR (List UInt8) (Int × (List UInt8) × GErr)) :=
match s with
| (v3, v4, v5) =>
if (v2.isNil) then
if (decide ((v5.length : Int) = 0)) then
some (.ret (0, v5, (GErr.s 0)))
else
(at? v5 0) >>= fun v18 =>
(sub? v5 1 (v5.length : Int)) >>= fun v20 =>
(if (decide (v4 = 9)) then
if (decide (1 < (v18.toNat : Int))) then
((some (.ret (0, v20, (GErr.s 1))) : Option (LR (List UInt8) (Int × (List UInt8) × GErr))) >>= fun rv => some (.ret rv))
else
if (decide (0 < v4)) then
if (decide ((v18.toNat : Int) = 0)) then
((some (.ret (0, v20, (GErr.s 1))) : Option (LR (List UInt8) (Int × (List UInt8) × GErr))) >>= fun rv => some (.ret rv))
else
some (.go (true, (decide ((v18.toNat : Int) = 0))))
else
some (.go (false, false))
else
if (decide (0 < v4)) then
if (decide ((v18.toNat : Int) = 0)) then
((some (.ret (0, v20, (GErr.s 1))) : Option (LR (List UInt8) (Int × (List UInt8) × GErr))) >>= fun rv => some (.ret rv))
else
some (.go (true, (decide ((v18.toNat : Int) = 0))))
else
some (.go (false, false)) : Option (LR (Bool × Bool) (LR (List UInt8) (Int × (List UInt8) × GErr)))) >>= fun jr157 =>
(match jr157 with
| .go (v21, v22) =>
(shl? .u64 (IntKind.u64.wrap (Go.bits .and .u8 (v18.toNat : Int) 127)) (i64 (7 * v4))) >>= fun v24 =>
if (decide ((v18.toNat : Int) < 128)) then
(shr? .u64 (Go.bits .or .u64 v3 v24) 1) >>= fun v26 =>
some (.ret ((Go.bits .xor .i64 (IntKind.i64.wrap v26) (IntKind.i64.wrap (0 - (IntKind.i64.wrap (Go.bits .and .u64 (Go.bits .or .u64 v3 v24) 1))))), v20, v2))
else
l117_1 v2 ((Go.bits .or .u64 v3 v24), (i64 (v4 + 1)), v20)
| .ret rv => some rv)
else
some (.go v5)
partial_fixpoint
def p117 : (List UInt8) → GErr → Option (Int × (List UInt8) × GErr)
| v1, v2 =>
(l117_1 v2 (0, 0, v1)) >>= fun rr129 =>
(match rr129 with
| .go v16 =>
some (0, v16, v2)
| .ret rv =>
some rv)
theorem c117 [ErrC] {v1 : List UInt8} {v2 : GErr} {kb0 : Nat} {r : Int × (List UInt8) × GErr} (h : p117 v1 v2 = some r) (τ : Store) (hG : GL gls τ) : CMH Tryd.prog 117 [.sc (.pointer (some ⟨kb0, 0, none⟩))] [.blk kb0 (.cells 89 2 [slA 1 u8A v1, errA v2]), .frm τ] (Ret1 (iA r.1) [.blk kb0 (.cells 89 2 [slA 1 u8A r.2.1, errA r.2.2])] τ) := by
  rw [p117.eq_1] at h
  refine ch_enter Tryd.func117 rfl Tryd.ntmps117 rfl ?_
  refine wmh_seq ?_
  refine wmh_region ?_
  refine wh_q rfl rfl (q_assign rfl) ?_
  refine wh_nil ?_
  refine wmh_seq ?_
  refine wmh_region ?_
  refine wh_q rfl rfl (q_assign rfl) ?_
  refine wh_nil ?_
  refine wmh_seq ?_
  refine wmh_seq ?_
  refine wmh_region ?_
  refine wh_q rfl rfl (q_assign rfl) ?_
  refine wh_nil ?_
  obtain ⟨rr129, hr129, h⟩ := obind h
  refine wmh_block ?_
  refine wmh_loop (l117_1.partial_correctness v2) (fun s L H => match s with | (v3, v4, v5) => Sub [(0, .sc (.pointer (some ⟨kb0, 0, none⟩))), (3, .sc (.int .u64 v3)), (4, iA v4)] L ∧ SubH [.blk kb0 (.cells 89 2 [slA 1 u8A v5, errA v2]), .frm τ] H) (fun r e L H => match r with | .go v16 =>  e = .exit 0 ∧ Sub [] L ∧ SubH [.blk kb0 (.cells 89 2 [slA 1 u8A v16, errA v2]), .frm τ] H | .ret rv => e = .ret ∧ RetRel Tryd.prog Tryd.f117 73 (Ret1 (iA rv.1) [.blk kb0 (.cells 89 2 [slA 1 u8A rv.2.1, errA rv.2.2])] τ) L H) hr129 ⟨(sub_of ⟨rfl, rfl, rfl, trivial⟩), (sub_cuts (is := [0, 0]) rfl)⟩ ?_ ?_
  · intro e L H hp
    obtain v16 | rv := rr129
    · obtain ⟨rfl, hs, hh⟩ := hp
      refine wmh_sub hs hh ?_
      refine wmh_seq ?_
      refine wmh_region ?_
      refine wh_q rfl rfl (q_assign rfl) ?_
      refine wh_nil ?_
      refine wmh_ret ?_
      obtain rfl := (some_inj h).symm
      exact ⟨_, _, rh_one rfl rfl, sub_cuts (is := [0, 0]) rfl, rfl, rfl⟩
    · obtain ⟨rfl, hp⟩ := hp
      obtain rfl := (some_inj h).symm
      exact hp
  · rintro l_ ⟨v3, v4, v5⟩ r h L H hp
    obtain ⟨hs, hh⟩ := hp
    refine wmh_sub hs hh ?_
    refine wmh_seq ?_
    refine wmh_seq ?_
    refine wmh_region ?_
    refine wh_q rfl rfl (q_move rfl) ?_
    refine wh_q rfl rfl (q_nilCheck_own rfl) ?_
    refine wh_q rfl rfl (q_fieldAddr_own fl89_1 rfl) ?_
    refine wh_q rfl rfl (q_load_own ty26 rfl (i := 0) rfl rfl) ?_
    refine wh_q rfl rfl (q_nil_eql Tryd.underlying26 rfl (nilB_err _)) ?_
    refine wh_nil ?_
    refine wmh_ite rfl h (fun hc130 h => ?_) (fun hc130 h => ?_)
    · refine wmh_skip ?_
      refine wmh_seq ?_
      refine wmh_block ?_
      refine wmh_seq ?_
      refine wmh_seq ?_
      refine wmh_region ?_
      refine wh_q rfl rfl (q_move rfl) ?_
      refine wh_q rfl rfl (q_nilCheck_own rfl) ?_
      refine wh_q rfl rfl (q_fieldAddr_own fl89_0 rfl) ?_
      refine wh_q rfl rfl (q_load_own ty22 rfl (i := 0) rfl rfl) ?_
      refine wh_q rfl rfl (q_len_slA Tryd.underlying22 rfl) ?_
      refine wh_q rfl rfl (q_bin rfl rfl rfl) ?_
      refine wh_nil ?_
      refine wmh_ite rfl h (fun hc132 h => ?_) (fun hc132 h => ?_)
      · refine wmh_seq ?_
        refine wmh_region ?_
        refine wh_q rfl rfl (q_move rfl) ?_
        refine wh_q rfl rfl (q_load_glob ty26 hG (j := 0) rfl (cut1_at 1 rfl)) ?_
        refine wh_q rfl rfl (q_nilCheck_own rfl) ?_
        refine wh_q rfl rfl (q_fieldAddr_own fl89_1 rfl) ?_
        refine wh_n rfl (oh_store (i := 0) [slA 1 u8A v5, errA (GErr.s 0)] ty26 rfl rfl rfl rfl rfl rfl rfl ?_)
        refine wh_nil ?_
        refine wmh_seq ?_
        refine wmh_region ?_
        refine wh_q rfl rfl (q_assign rfl) ?_
        refine wh_nil ?_
        refine wmh_ret ?_
        obtain rfl := (some_inj h).symm
        exact ⟨rfl, _, _, rh_one rfl rfl, sub_cuts (is := [0, 0]) rfl, rfl, rfl⟩
      · refine wmh_skip ?_
        refine wmh_seq ?_
        refine wmh_region ?_
        refine wh_q rfl rfl (q_move rfl) ?_
        refine wh_q rfl rfl (q_nilCheck_own rfl) ?_
        refine wh_q rfl rfl (q_fieldAddr_own fl89_0 rfl) ?_
        refine wh_q rfl rfl (q_load_own ty22 rfl (i := 0) rfl rfl) ?_
        obtain ⟨v18, hb134, h⟩ := obind h
        refine wh_q rfl rfl (q_index el22 rfl rfl hb134) ?_
        refine wh_q rfl rfl (q_load_ref ty5 rfl rfl rfl) ?_
        refine wh_q rfl rfl (q_assign rfl) ?_
        refine wh_nil ?_
        refine wmh_seq ?_
        refine wmh_region ?_
        refine wh_q rfl rfl (q_move rfl) ?_
        refine wh_q rfl rfl (q_move rfl) ?_
        refine wh_q rfl rfl (q_nilCheck_own rfl) ?_
        refine wh_q rfl rfl (q_fieldAddr_own fl89_0 rfl) ?_
        refine wh_q rfl rfl (q_load_own ty22 rfl (i := 0) rfl rfl) ?_
        obtain ⟨v20, hb136, h⟩ := obind h
        refine wh_q rfl rfl (q_slice_slA el22 rfl rfl rfl hb136) ?_
        refine wh_q rfl rfl (q_nilCheck_own rfl) ?_
        refine wh_q rfl rfl (q_fieldAddr_own fl89_0 rfl) ?_
        refine wh_n rfl (oh_store (i := 0) [slA 1 u8A v20, errA v2] ty22 rfl rfl rfl rfl rfl rfl rfl ?_)
        refine wh_nil ?_
        obtain ⟨jr157, hx, hj157⟩ := obind h
        refine wmh_join (ι := Bool × Bool) (fun i L H => match i with | (v21, v22) => jr157 = (.go (v21, v22)) ∧ Sub [(0, .sc (.pointer (some ⟨kb0, 0, none⟩))), (3, .sc (.int .u64 v3)), (4, iA v4), (5, .sc (.int .u8 (v18.toNat : Int))), (44, iA v4), (45, .sc (.bool (decide (0 < v4)))), (46, .sc (.bool v21)), (49, .sc (.bool v22))] L ∧ SubH [.blk kb0 (.cells 89 2 [slA 1 u8A v20, errA v2]), .frm τ] H) ?_ ?_
        · have h := hx
          refine wmh_seq ?_
          refine wmh_region ?_
          refine wh_q rfl rfl (q_move rfl) ?_
          refine wh_q rfl rfl (q_bin rfl rfl rfl) ?_
          refine wh_q rfl rfl (q_move rfl) ?_
          refine wh_ite (t := 39) rfl h (fun hc162 h => ?_) (fun hc162 h => ?_)
          · refine wh_q rfl rfl (q_move rfl) ?_
            refine wh_q rfl rfl (q_bin rfl rfl rfl) ?_
            refine wh_q rfl rfl (q_pick_t rfl rfl) ?_
            refine wh_q rfl rfl (q_move rfl) ?_
            refine wh_ite (t := 43) rfl h (fun hc163 h => ?_) (fun hc163 h => ?_)
            · refine wh_sk rfl rfl ?_
              refine wh_sk rfl rfl ?_
              refine wh_sk rfl rfl ?_
              refine wh_sk rfl rfl ?_
              refine wh_sk rfl rfl ?_
              refine wh_sk rfl rfl ?_
              refine wh_q rfl rfl (q_pick_t rfl rfl) ?_
              refine wh_nil ?_
              refine wmh_cond_t rfl ?_
              refine wmh_seq ?_
              refine wmh_region ?_
              refine wh_q rfl rfl (q_move rfl) ?_
              refine wh_q rfl rfl (q_load_glob ty26 hG (j := 1) rfl (cut1_at 1 rfl)) ?_
              refine wh_q rfl rfl (q_nilCheck_own rfl) ?_
              refine wh_q rfl rfl (q_fieldAddr_own fl89_1 rfl) ?_
              refine wh_n rfl (oh_store (i := 0) [slA 1 u8A v20, errA (GErr.s 1)] ty26 rfl rfl rfl rfl rfl rfl rfl ?_)
              refine wh_nil ?_
              refine wmh_seq ?_
              refine wmh_region ?_
              refine wh_q rfl rfl (q_assign rfl) ?_
              refine wh_nil ?_
              refine wmh_ret ?_
              obtain ⟨rv, hv, e_⟩ := obind h; obtain rfl := (some_inj e_).symm; have h := hv.trans hj157
              obtain rfl := (some_inj h).symm
              exact ⟨rfl, _, _, rh_one rfl rfl, sub_cuts (is := [0, 0]) rfl, rfl, rfl⟩
            · refine wh_q rfl rfl (q_move rfl) ?_
              refine wh_q rfl rfl (q_bin rfl rfl rfl) ?_
              refine wh_q rfl rfl (q_move rfl) ?_
              refine wh_ite (t := 46) rfl h (fun hc164 h => ?_) (fun hc164 h => ?_)
              · refine wh_q rfl rfl (q_move rfl) ?_
                refine wh_q rfl rfl (q_bin rfl rfl rfl) ?_
                refine wh_q rfl rfl (q_pick_t rfl rfl) ?_
                refine wh_q rfl rfl (q_pick_f rfl rfl) ?_
                refine wh_nil ?_
                refine wmh_ite rfl h (fun hc165 h => ?_) (fun hc165 h => ?_)
                · refine wmh_seq ?_
                  refine wmh_region ?_
                  refine wh_q rfl rfl (q_move rfl) ?_
                  refine wh_q rfl rfl (q_load_glob ty26 hG (j := 1) rfl (cut1_at 1 rfl)) ?_
                  refine wh_q rfl rfl (q_nilCheck_own rfl) ?_
                  refine wh_q rfl rfl (q_fieldAddr_own fl89_1 rfl) ?_
                  refine wh_n rfl (oh_store (i := 0) [slA 1 u8A v20, errA (GErr.s 1)] ty26 rfl rfl rfl rfl rfl rfl rfl ?_)
                  refine wh_nil ?_
                  refine wmh_seq ?_
                  refine wmh_region ?_
                  refine wh_q rfl rfl (q_assign rfl) ?_
                  refine wh_nil ?_
                  refine wmh_ret ?_
                  obtain ⟨rv, hv, e_⟩ := obind h; obtain rfl := (some_inj e_).symm; have h := hv.trans hj157
                  obtain rfl := (some_inj h).symm
                  exact ⟨rfl, _, _, rh_one rfl rfl, sub_cuts (is := [0, 0]) rfl, rfl, rfl⟩
                · refine wmh_skip ?_
                  obtain rfl := (some_inj h).symm
                  exact ⟨(true, (decide ((v18.toNat : Int) = 0))), rfl, (sub_of ⟨rfl, rfl, rfl, rfl, rfl, rfl, rfl, rfl, trivial⟩), (sub_cuts (is := [0, 0]) rfl)⟩
              · refine wh_sk rfl rfl ?_
                refine wh_sk rfl rfl ?_
                refine wh_q rfl rfl (q_pick_f rfl rfl) ?_
                refine wh_q rfl rfl (q_pick_f rfl rfl) ?_
                refine wh_nil ?_
                refine wmh_cond_f rfl ?_
                refine wmh_skip ?_
                obtain rfl := (some_inj h).symm
                exact ⟨(false, false), rfl, (sub_of ⟨rfl, rfl, rfl, rfl, rfl, rfl, rfl, rfl, trivial⟩), (sub_cuts (is := [0, 0]) rfl)⟩
          · refine wh_sk rfl rfl ?_
            refine wh_sk rfl rfl ?_
            refine wh_q rfl rfl (q_pick_f rfl rfl) ?_
            refine wh_q rfl rfl (q_move rfl) ?_
            refine wh_q rfl rfl (q_move rfl) ?_
            refine wh_q rfl rfl (q_bin rfl rfl rfl) ?_
            refine wh_q rfl rfl (q_move rfl) ?_
            refine wh_ite (t := 46) rfl h (fun hc166 h => ?_) (fun hc166 h => ?_)
            · refine wh_q rfl rfl (q_move rfl) ?_
              refine wh_q rfl rfl (q_bin rfl rfl rfl) ?_
              refine wh_q rfl rfl (q_pick_t rfl rfl) ?_
              refine wh_q rfl rfl (q_pick_f rfl rfl) ?_
              refine wh_nil ?_
              refine wmh_ite rfl h (fun hc167 h => ?_) (fun hc167 h => ?_)
              · refine wmh_seq ?_
                refine wmh_region ?_
                refine wh_q rfl rfl (q_move rfl) ?_
                refine wh_q rfl rfl (q_load_glob ty26 hG (j := 1) rfl (cut1_at 1 rfl)) ?_
                refine wh_q rfl rfl (q_nilCheck_own rfl) ?_
                refine wh_q rfl rfl (q_fieldAddr_own fl89_1 rfl) ?_
                refine wh_n rfl (oh_store (i := 0) [slA 1 u8A v20, errA (GErr.s 1)] ty26 rfl rfl rfl rfl rfl rfl rfl ?_)
                refine wh_nil ?_
                refine wmh_seq ?_
                refine wmh_region ?_
                refine wh_q rfl rfl (q_assign rfl) ?_
                refine wh_nil ?_
                refine wmh_ret ?_
                obtain ⟨rv, hv, e_⟩ := obind h; obtain rfl := (some_inj e_).symm; have h := hv.trans hj157
                obtain rfl := (some_inj h).symm
                exact ⟨rfl, _, _, rh_one rfl rfl, sub_cuts (is := [0, 0]) rfl, rfl, rfl⟩
              · refine wmh_skip ?_
                obtain rfl := (some_inj h).symm
                exact ⟨(true, (decide ((v18.toNat : Int) = 0))), rfl, (sub_of ⟨rfl, rfl, rfl, rfl, rfl, rfl, rfl, rfl, trivial⟩), (sub_cuts (is := [0, 0]) rfl)⟩
            · refine wh_sk rfl rfl ?_
              refine wh_sk rfl rfl ?_
              refine wh_q rfl rfl (q_pick_f rfl rfl) ?_
              refine wh_q rfl rfl (q_pick_f rfl rfl) ?_
              refine wh_nil ?_
              refine wmh_cond_f rfl ?_
              refine wmh_skip ?_
              obtain rfl := (some_inj h).symm
              exact ⟨(false, false), rfl, (sub_of ⟨rfl, rfl, rfl, rfl, rfl, rfl, rfl, rfl, trivial⟩), (sub_cuts (is := [0, 0]) rfl)⟩
        · rintro ⟨v21, v22⟩ L H hp
          obtain ⟨rfl, hs, hh⟩ := hp
          have h := hj157
          refine wmh_sub hs hh ?_
          refine wmh_seq ?_
          refine wmh_region ?_
          refine wh_q rfl rfl (q_move rfl) ?_
          refine wh_q rfl rfl (q_move rfl) ?_
          refine wh_q rfl rfl (q_bin rfl rfl rfl) ?_
          refine wh_q rfl rfl (q_conv Tryd.underlying5 Tryd.underlying162 rfl) ?_
          refine wh_q rfl rfl (q_move rfl) ?_
          refine wh_q rfl rfl (q_bin rfl rfl rfl) ?_
          obtain ⟨v24, hb169, h⟩ := obind h
          refine wh_q rfl rfl (q_shl rfl rfl hb169) ?_
          refine wh_q rfl rfl (q_bin rfl rfl rfl) ?_
          refine wh_q rfl rfl (q_assign rfl) ?_
          refine wh_nil ?_
          refine wmh_seq ?_
          refine wmh_region ?_
          refine wh_q rfl rfl (q_move rfl) ?_
          refine wh_q rfl rfl (q_bin rfl rfl rfl) ?_
          refine wh_nil ?_
          refine wmh_ite rfl h (fun hc170 h => ?_) (fun hc170 h => ?_)
          · refine wmh_seq ?_
            refine wmh_region ?_
            refine wh_q rfl rfl (q_move rfl) ?_
            obtain ⟨v26, hb172, h⟩ := obind h
            refine wh_q rfl rfl (q_shr rfl rfl hb172) ?_
            refine wh_q rfl rfl (q_conv Tryd.underlying162 Tryd.underlying2 rfl) ?_
            refine wh_q rfl rfl (q_move rfl) ?_
            refine wh_q rfl rfl (q_bin rfl rfl rfl) ?_
            refine wh_q rfl rfl (q_conv Tryd.underlying162 Tryd.underlying2 rfl) ?_
            refine wh_q rfl rfl (q_neg rfl) ?_
            refine wh_q rfl rfl (q_bin rfl rfl rfl) ?_
            refine wh_q rfl rfl (q_assign rfl) ?_
            refine wh_nil ?_
            refine wmh_ret ?_
            obtain rfl := (some_inj h).symm
            exact ⟨rfl, _, _, rh_one rfl rfl, sub_cuts (is := [0, 0]) rfl, rfl, rfl⟩
          · refine wmh_skip ?_
            refine wmh_region ?_
            refine wh_q rfl rfl (q_move rfl) ?_
            refine wh_q rfl rfl (q_bin rfl rfl rfl) ?_
            refine wh_q rfl rfl (q_assign rfl) ?_
            refine wh_nil ?_
            exact ⟨((Go.bits .or .u64 v3 v24), (i64 (v4 + 1)), v20), h, (sub_of ⟨rfl, rfl, rfl, trivial⟩), (sub_cuts (is := [0, 0]) rfl)⟩
    · refine wmh_exit ?_
      obtain rfl := (some_inj h).symm
      exact ⟨rfl, (sub_of trivial), (sub_cuts (is := [0, 0]) rfl)⟩
def p82 : Int → Int → (List UInt8) → GErr → Option (Int × (List UInt8) × GErr)
| v1, v2, v3, v4 =>
(p117 v3 v4) >>= fun (v8, v9, v10) =>
if (v10.isNil) then
if (decide (v8 < v1)) then
if (!(GErr.s 2).isNil) then
some (0, v9, (GErr.s 2))
else
some (v8, v9, (GErr.s 2))
else
if (decide (v2 < v8)) then
if (!(GErr.s 2).isNil) then
some (0, v9, (GErr.s 2))
else
some (v8, v9, (GErr.s 2))
else
if (!v10.isNil) then
some (0, v9, v10)
else
some (v8, v9, v10)
else
if (!v10.isNil) then
some (0, v9, v10)
else
some (v8, v9, v10)
theorem c82 [ErrC] {v1 : Int} {v2 : Int} {v3 : List UInt8} {v4 : GErr} {kb0 : Nat} {r : Int × (List UInt8) × GErr} (h : p82 v1 v2 v3 v4 = some r) (τ : Store) (hG : GL gls τ) : CMH Tryd.prog 82 [.sc (.pointer (some ⟨kb0, 0, none⟩)), iA v1, iA v2] [.blk kb0 (.cells 89 2 [slA 1 u8A v3, errA v4]), .frm τ] (Ret1 (iA r.1) [.blk kb0 (.cells 89 2 [slA 1 u8A r.2.1, errA r.2.2])] τ) := by
  rw [p82.eq_1] at h
  refine ch_enter Tryd.func82 rfl Tryd.ntmps82 rfl ?_
  refine wmh_seq ?_
  refine wmh_region ?_
  refine wh_q rfl rfl (q_assign rfl) ?_
  refine wh_nil ?_
  refine wmh_seq ?_
  refine wmh_region ?_
  refine wh_q rfl rfl (q_move rfl) ?_
  obtain ⟨⟨v8, v9, v10⟩, hb1, h⟩ := obind h
  refine wh_l rfl rfl (oh_call1 [0] fn117 rfl rfl (fun τ hτ => c117 hb1 τ (gl_has (n := 0) hG rfl hτ)) ?_)
  refine wh_q rfl rfl (q_assign rfl) ?_
  refine wh_nil ?_
  refine wmh_seq ?_
  refine wmh_seq ?_
  refine wmh_region ?_
  refine wh_q rfl rfl (q_move rfl) ?_
  refine wh_q rfl rfl (q_nilCheck_own rfl) ?_
  refine wh_q rfl rfl (q_fieldAddr_own fl89_1 rfl) ?_
  refine wh_q rfl rfl (q_load_own ty26 rfl (i := 0) rfl rfl) ?_
  refine wh_q rfl rfl (q_nil_eql Tryd.underlying26 rfl (nilB_err _)) ?_
  refine wh_q rfl rfl (q_move rfl) ?_
  refine wh_ite (t := 15) rfl h (fun hc4 h => ?_) (fun hc4 h => ?_)
  · refine wh_q rfl rfl (q_move rfl) ?_
    refine wh_q rfl rfl (q_move rfl) ?_
    refine wh_q rfl rfl (q_bin rfl rfl rfl) ?_
    refine wh_q rfl rfl (q_move rfl) ?_
    refine wh_ite (t := 19) rfl h (fun hc5 h => ?_) (fun hc5 h => ?_)
    · refine wh_sk rfl rfl ?_
      refine wh_sk rfl rfl ?_
      refine wh_sk rfl rfl ?_
      refine wh_q rfl rfl (q_pick_t rfl rfl) ?_
      refine wh_q rfl rfl (q_pick_t rfl rfl) ?_
      refine wh_nil ?_
      refine wmh_cond_t rfl ?_
      refine wmh_region ?_
      refine wh_q rfl rfl (q_move rfl) ?_
      refine wh_q rfl rfl (q_load_glob ty26 hG (j := 2) rfl (cut1_at 1 rfl)) ?_
      refine wh_q rfl rfl (q_nilCheck_own rfl) ?_
      refine wh_q rfl rfl (q_fieldAddr_own fl89_1 rfl) ?_
      refine wh_n rfl (oh_store (i := 0) [slA 1 u8A v9, errA (GErr.s 2)] ty26 rfl rfl rfl rfl rfl rfl rfl ?_)
      refine wh_nil ?_
      refine wmh_seq ?_
      refine wmh_seq ?_
      refine wmh_region ?_
      refine wh_q rfl rfl (q_move rfl) ?_
      refine wh_q rfl rfl (q_nilCheck_own rfl) ?_
      refine wh_q rfl rfl (q_fieldAddr_own fl89_1 rfl) ?_
      refine wh_q rfl rfl (q_load_own ty26 rfl (i := 0) rfl rfl) ?_
      refine wh_q rfl rfl (q_nil_neq Tryd.underlying26 rfl (nilB_err _)) ?_
      refine wh_nil ?_
      refine wmh_ite rfl h (fun hc6 h => ?_) (fun hc6 h => ?_)
      · refine wmh_seq ?_
        refine wmh_region ?_
        refine wh_q rfl rfl (q_assign rfl) ?_
        refine wh_nil ?_
        refine wmh_ret ?_
        obtain rfl := (some_inj h).symm
        exact ⟨_, _, rh_one rfl rfl, sub_cuts (is := [0, 0]) rfl, rfl, rfl⟩
      · refine wmh_skip ?_
        refine wmh_seq ?_
        refine wmh_region ?_
        refine wh_q rfl rfl (q_move rfl) ?_
        refine wh_q rfl rfl (q_assign rfl) ?_
        refine wh_nil ?_
        refine wmh_ret ?_
        obtain rfl := (some_inj h).symm
        exact ⟨_, _, rh_one rfl rfl, sub_cuts (is := [0, 0]) rfl, rfl, rfl⟩
    · refine wh_q rfl rfl (q_move rfl) ?_
      refine wh_q rfl rfl (q_move rfl) ?_
      refine wh_q rfl rfl (q_bin rfl rfl rfl) ?_
      refine wh_q rfl rfl (q_pick_f rfl rfl) ?_
      refine wh_q rfl rfl (q_pick_t rfl rfl) ?_
      refine wh_nil ?_
      refine wmh_ite rfl h (fun hc7 h => ?_) (fun hc7 h => ?_)
      · refine wmh_region ?_
        refine wh_q rfl rfl (q_move rfl) ?_
        refine wh_q rfl rfl (q_load_glob ty26 hG (j := 2) rfl (cut1_at 1 rfl)) ?_
        refine wh_q rfl rfl (q_nilCheck_own rfl) ?_
        refine wh_q rfl rfl (q_fieldAddr_own fl89_1 rfl) ?_
        refine wh_n rfl (oh_store (i := 0) [slA 1 u8A v9, errA (GErr.s 2)] ty26 rfl rfl rfl rfl rfl rfl rfl ?_)
        refine wh_nil ?_
        refine wmh_seq ?_
        refine wmh_seq ?_
        refine wmh_region ?_
        refine wh_q rfl rfl (q_move rfl) ?_
        refine wh_q rfl rfl (q_nilCheck_own rfl) ?_
        refine wh_q rfl rfl (q_fieldAddr_own fl89_1 rfl) ?_
        refine wh_q rfl rfl (q_load_own ty26 rfl (i := 0) rfl rfl) ?_
        refine wh_q rfl rfl (q_nil_neq Tryd.underlying26 rfl (nilB_err _)) ?_
        refine wh_nil ?_
        refine wmh_ite rfl h (fun hc8 h => ?_) (fun hc8 h => ?_)
        · refine wmh_seq ?_
          refine wmh_region ?_
          refine wh_q rfl rfl (q_assign rfl) ?_
          refine wh_nil ?_
          refine wmh_ret ?_
          obtain rfl := (some_inj h).symm
          exact ⟨_, _, rh_one rfl rfl, sub_cuts (is := [0, 0]) rfl, rfl, rfl⟩
        · refine wmh_skip ?_
          refine wmh_seq ?_
          refine wmh_region ?_
          refine wh_q rfl rfl (q_move rfl) ?_
          refine wh_q rfl rfl (q_assign rfl) ?_
          refine wh_nil ?_
          refine wmh_ret ?_
          obtain rfl := (some_inj h).symm
          exact ⟨_, _, rh_one rfl rfl, sub_cuts (is := [0, 0]) rfl, rfl, rfl⟩
      · refine wmh_skip ?_
        refine wmh_seq ?_
        refine wmh_seq ?_
        refine wmh_region ?_
        refine wh_q rfl rfl (q_move rfl) ?_
        refine wh_q rfl rfl (q_nilCheck_own rfl) ?_
        refine wh_q rfl rfl (q_fieldAddr_own fl89_1 rfl) ?_
        refine wh_q rfl rfl (q_load_own ty26 rfl (i := 0) rfl rfl) ?_
        refine wh_q rfl rfl (q_nil_neq Tryd.underlying26 rfl (nilB_err _)) ?_
        refine wh_nil ?_
        refine wmh_ite rfl h (fun hc9 h => ?_) (fun hc9 h => ?_)
        · refine wmh_seq ?_
          refine wmh_region ?_
          refine wh_q rfl rfl (q_assign rfl) ?_
          refine wh_nil ?_
          refine wmh_ret ?_
          obtain rfl := (some_inj h).symm
          exact ⟨_, _, rh_one rfl rfl, sub_cuts (is := [0, 0]) rfl, rfl, rfl⟩
        · refine wmh_skip ?_
          refine wmh_seq ?_
          refine wmh_region ?_
          refine wh_q rfl rfl (q_move rfl) ?_
          refine wh_q rfl rfl (q_assign rfl) ?_
          refine wh_nil ?_
          refine wmh_ret ?_
          obtain rfl := (some_inj h).symm
          exact ⟨_, _, rh_one rfl rfl, sub_cuts (is := [0, 0]) rfl, rfl, rfl⟩
  · refine wh_sk rfl rfl ?_
    refine wh_sk rfl rfl ?_
    refine wh_sk rfl rfl ?_
    refine wh_sk rfl rfl ?_
    refine wh_sk rfl rfl ?_
    refine wh_sk rfl rfl ?_
    refine wh_sk rfl rfl ?_
    refine wh_sk rfl rfl ?_
    refine wh_q rfl rfl (q_pick_f rfl rfl) ?_
    refine wh_nil ?_
    refine wmh_cond_f rfl ?_
    refine wmh_skip ?_
    refine wmh_seq ?_
    refine wmh_seq ?_
    refine wmh_region ?_
    refine wh_q rfl rfl (q_move rfl) ?_
    refine wh_q rfl rfl (q_nilCheck_own rfl) ?_
    refine wh_q rfl rfl (q_fieldAddr_own fl89_1 rfl) ?_
    refine wh_q rfl rfl (q_load_own ty26 rfl (i := 0) rfl rfl) ?_
    refine wh_q rfl rfl (q_nil_neq Tryd.underlying26 rfl (nilB_err _)) ?_
    refine wh_nil ?_
    refine wmh_ite rfl h (fun hc10 h => ?_) (fun hc10 h => ?_)
    · refine wmh_seq ?_
      refine wmh_region ?_
      refine wh_q rfl rfl (q_assign rfl) ?_
      refine wh_nil ?_
      refine wmh_ret ?_
      obtain rfl := (some_inj h).symm
      exact ⟨_, _, rh_one rfl rfl, sub_cuts (is := [0, 0]) rfl, rfl, rfl⟩
    · refine wmh_skip ?_
      refine wmh_seq ?_
      refine wmh_region ?_
      refine wh_q rfl rfl (q_move rfl) ?_
      refine wh_q rfl rfl (q_assign rfl) ?_
      refine wh_nil ?_
      refine wmh_ret ?_
      obtain rfl := (some_inj h).symm
      exact ⟨_, _, rh_one rfl rfl, sub_cuts (is := [0, 0]) rfl, rfl, rfl⟩
def p81 : Int → (List UInt8) → GErr → Option (Int × (List UInt8) × GErr)
| v1, v2, v3 =>
(p82 0 v1 v2 v3) >>= fun (v7, v8, v9) =>
if (decide ((v8.length : Int) < v7)) then
some (0, v8, (GErr.s 0))
else
some (v7, v8, v9)
theorem c81 [ErrC] {v1 : Int} {v2 : List UInt8} {v3 : GErr} {kb0 : Nat} {r : Int × (List UInt8) × GErr} (h : p81 v1 v2 v3 = some r) (τ : Store) (hG : GL gls τ) : CMH Tryd.prog 81 [.sc (.pointer (some ⟨kb0, 0, none⟩)), iA v1] [.blk kb0 (.cells 89 2 [slA 1 u8A v2, errA v3]), .frm τ] (Ret1 (iA r.1) [.blk kb0 (.cells 89 2 [slA 1 u8A r.2.1, errA r.2.2])] τ) := by
  rw [p81.eq_1] at h
  refine ch_enter Tryd.func81 rfl Tryd.ntmps81 rfl ?_
  refine wmh_seq ?_
  refine wmh_region ?_
  refine wh_q rfl rfl (q_assign rfl) ?_
  refine wh_nil ?_
  refine wmh_seq ?_
  refine wmh_region ?_
  refine wh_q rfl rfl (q_move rfl) ?_
  refine wh_q rfl rfl (q_move rfl) ?_
  obtain ⟨⟨v7, v8, v9⟩, hb1, h⟩ := obind h
  refine wh_l rfl rfl (oh_call1 [0] fn82 rfl rfl (fun τ hτ => c82 hb1 τ (gl_has (n := 0) hG rfl hτ)) ?_)
  refine wh_q rfl rfl (q_assign rfl) ?_
  refine wh_nil ?_
  refine wmh_seq ?_
  refine wmh_seq ?_
  refine wmh_region ?_
  refine wh_q rfl rfl (q_move rfl) ?_
  refine wh_q rfl rfl (q_move rfl) ?_
  refine wh_q rfl rfl (q_nilCheck_own rfl) ?_
  refine wh_q rfl rfl (q_fieldAddr_own fl89_0 rfl) ?_
  refine wh_q rfl rfl (q_load_own ty22 rfl (i := 0) rfl rfl) ?_
  refine wh_q rfl rfl (q_len_slA Tryd.underlying22 rfl) ?_
  refine wh_q rfl rfl (q_bin rfl rfl rfl) ?_
  refine wh_nil ?_
  refine wmh_ite rfl h (fun hc2 h => ?_) (fun hc2 h => ?_)
  · refine wmh_seq ?_
    refine wmh_region ?_
    refine wh_q rfl rfl (q_move rfl) ?_
    refine wh_q rfl rfl (q_load_glob ty26 hG (j := 0) rfl (cut1_at 1 rfl)) ?_
    refine wh_q rfl rfl (q_nilCheck_own rfl) ?_
    refine wh_q rfl rfl (q_fieldAddr_own fl89_1 rfl) ?_
    refine wh_n rfl (oh_store (i := 0) [slA 1 u8A v8, errA (GErr.s 0)] ty26 rfl rfl rfl rfl rfl rfl rfl ?_)
    refine wh_nil ?_
    refine wmh_seq ?_
    refine wmh_region ?_
    refine wh_q rfl rfl (q_assign rfl) ?_
    refine wh_nil ?_
    refine wmh_ret ?_
    obtain rfl := (some_inj h).symm
    exact ⟨_, _, rh_one rfl rfl, sub_cuts (is := [0, 0]) rfl, rfl, rfl⟩
  · refine wmh_skip ?_
    refine wmh_seq ?_
    refine wmh_region ?_
    refine wh_q rfl rfl (q_move rfl) ?_
    refine wh_q rfl rfl (q_assign rfl) ?_
    refine wh_nil ?_
    refine wmh_ret ?_
    obtain rfl := (some_inj h).symm
    exact ⟨_, _, rh_one rfl rfl, sub_cuts (is := [0, 0]) rfl, rfl, rfl⟩
def p83 : (List UInt8) → GErr → Option (ByteArray × (List UInt8) × GErr)
| v1, v2 =>
(p81 65536 v1 v2) >>= fun (v6, v7, v8) =>
(sub? v7 0 v6) >>= fun v10 =>
(sub? v7 v6 (v7.length : Int)) >>= fun v12 =>
some ((strOf v10), v12, v8)
theorem c83 [ErrC] {v1 : List UInt8} {v2 : GErr} {kb0 : Nat} {r : ByteArray × (List UInt8) × GErr} (h : p83 v1 v2 = some r) (τ : Store) (hG : GL gls τ) : CMH Tryd.prog 83 [.sc (.pointer (some ⟨kb0, 0, none⟩))] [.blk kb0 (.cells 89 2 [slA 1 u8A v1, errA v2]), .frm τ] (Ret1 (sA r.1) [.blk kb0 (.cells 89 2 [slA 1 u8A r.2.1, errA r.2.2])] τ) := by
  rw [p83.eq_1] at h
  refine ch_enter Tryd.func83 rfl Tryd.ntmps83 rfl ?_
  refine wmh_seq ?_
  refine wmh_region ?_
  refine wh_q rfl rfl (q_assign rfl) ?_
  refine wh_nil ?_
  refine wmh_seq ?_
  refine wmh_region ?_
  refine wh_q rfl rfl (q_move rfl) ?_
  obtain ⟨⟨v6, v7, v8⟩, hb1, h⟩ := obind h
  refine wh_l rfl rfl (oh_call1 [0] fn81 rfl rfl (fun τ hτ => c81 hb1 τ (gl_has (n := 0) hG rfl hτ)) ?_)
  refine wh_q rfl rfl (q_assign rfl) ?_
  refine wh_nil ?_
  refine wmh_seq ?_
  refine wmh_region ?_
  refine wh_q rfl rfl (q_move rfl) ?_
  refine wh_q rfl rfl (q_nilCheck_own rfl) ?_
  refine wh_q rfl rfl (q_fieldAddr_own fl89_0 rfl) ?_
  refine wh_q rfl rfl (q_load_own ty22 rfl (i := 0) rfl rfl) ?_
  refine wh_q rfl rfl (q_move rfl) ?_
  obtain ⟨v10, hb3, h⟩ := obind h
  refine wh_q rfl rfl (q_slice_slA el22 rfl rfl rfl hb3) ?_
  refine wh_q rfl rfl (q_conv_bytes Tryd.underlying22 Tryd.underlying5 Tryd.underlying9 rfl) ?_
  refine wh_q rfl rfl (q_assign rfl) ?_
  refine wh_nil ?_
  refine wmh_seq ?_
  refine wmh_region ?_
  refine wh_q rfl rfl (q_move rfl) ?_
  refine wh_q rfl rfl (q_move rfl) ?_
  refine wh_q rfl rfl (q_nilCheck_own rfl) ?_
  refine wh_q rfl rfl (q_fieldAddr_own fl89_0 rfl) ?_
  refine wh_q rfl rfl (q_load_own ty22 rfl (i := 0) rfl rfl) ?_
  refine wh_q rfl rfl (q_move rfl) ?_
  obtain ⟨v12, hb5, h⟩ := obind h
  refine wh_q rfl rfl (q_slice_slA el22 rfl rfl rfl hb5) ?_
  refine wh_q rfl rfl (q_nilCheck_own rfl) ?_
  refine wh_q rfl rfl (q_fieldAddr_own fl89_0 rfl) ?_
  refine wh_n rfl (oh_store (i := 0) [slA 1 u8A v12, errA v8] ty22 rfl rfl rfl rfl rfl rfl rfl ?_)
  refine wh_nil ?_
  refine wmh_seq ?_
  refine wmh_region ?_
  refine wh_q rfl rfl (q_move rfl) ?_
  refine wh_q rfl rfl (q_assign rfl) ?_
  refine wh_nil ?_
  refine wmh_ret ?_
  obtain rfl := (some_inj h).symm
  exact ⟨_, _, rh_one rfl rfl, sub_cuts (is := [0, 0]) rfl, rfl, rfl⟩
def l84_2 (s : Int × (List UInt8) × GErr × (List CAlt)) : Option ((List UInt8) × GErr × (List CAlt)) :=
match s with
| (v82, v83, v84, v86) =>
if (decide (0 < v82)) then
if (v84.isNil) then
(p82 1 3 v83 v84) >>= fun (v131, v132, v133) =>
(p82 0 262144 v132 v133) >>= fun (v134, v135, v136) =>
(p82 0 262144 v135 v136) >>= fun (v137, v138, v139) =>
(p117 v138 v139) >>= fun (v144, v145, v146) =>
(app1? 33 v86 (CAlt.mk v131 v134 v137 v144)) >>= fun v149 =>
l84_2 ((i64 (v82 - 1)), v145, v146, v149)
else
some (v83, v84, v86)
else
some (v83, v84, v86)
partial_fixpoint
def l84_1 (s : Int × (List UInt8) × GErr × (List CVal)) : Option ((List UInt8) × GErr × (List CVal)) :=
match s with
| (v49, v50, v51, v53) =>
if (decide (0 < v49)) then
if (v51.isNil) then
(p82 0 2 v50 v51) >>= fun (v155, v156, v157) =>
(p117 v156 v157) >>= fun (v162, v163, v164) =>
(app1? 17 v53 (CVal.mk v155 v162)) >>= fun v167 =>
l84_1 ((i64 (v49 - 1)), v163, v164, v167)
else
some (v50, v51, v53)
else
some (v50, v51, v53)
partial_fixpoint
def p84 : (List UInt8) → GErr → Option (CIns × (List UInt8) × GErr)
| v1, v2 =>
(p82 0 12 v1 v2) >>= fun (v21, v22, v23) =>
(p82 0 262144 v22 v23) >>= fun (v24, v25, v26) =>
(p82 0 262144 v25 v26) >>= fun (v27, v28, v29) =>
(p82 0 262144 v28 v29) >>= fun (v30, v31, v32) =>
(p117 v31 v32) >>= fun (v33, v34, v35) =>
(p83 v34 v35) >>= fun (v40, v41, v42) =>
(p81 262144 v41 v42) >>= fun (v46, v47, v48) =>
(l84_1 (v46, v47, v48, [])) >>= fun rr41 =>
(match rr41 with
| (v72, v73, v75) =>
(p81 60 v72 v73) >>= fun (v79, v80, v81) =>
(l84_2 (v79, v80, v81, [])) >>= fun rr83 =>
(match rr83 with
| (v117, v118, v120) =>
some ((CIns.mk v21 v24 v27 v30 v33 v40 v75 v120), v117, v118)))
theorem c84 [ErrC] {v1 : List UInt8} {v2 : GErr} {kb0 : Nat} {r : CIns × (List UInt8) × GErr} (h : p84 v1 v2 = some r) (τ : Store) (hG : GL gls τ) : CMH Tryd.prog 84 [.sc (.pointer (some ⟨kb0, 0, none⟩))] [.blk kb0 (.cells 89 2 [slA 1 u8A v1, errA v2]), .frm τ] (Ret1 (.agg [iA r.1.op, iA r.1.to, iA r.1.tag, iA r.1.fn, iA r.1.n, sA r.1.prim, slA 2 CVal.A r.1.vals, slA 4 CAlt.A r.1.alts]) [.blk kb0 (.cells 89 2 [slA 1 u8A r.2.1, errA r.2.2])] τ) := by
  rw [p84.eq_1] at h
  refine ch_enter Tryd.func84 rfl Tryd.ntmps84 rfl ?_
  refine wmh_seq ?_
  refine wmh_region ?_
  refine wh_l rfl rfl (oh_alloc (n := 8) (cs := [.sc (.int .i64 0), .sc (.int .i64 0), .sc (.int .i64 0), .sc (.int .i64 0), .sc (.int .i64 0), .sc (.string { data := #[] }), .sc (.slice none 0 0), .sc (.slice none 0 0)]) ze105 rfl rfl (fun k4 => ?_))
  refine wh_nil ?_
  refine wmh_seq ?_
  refine wmh_region ?_
  refine wh_q rfl rfl (q_move rfl) ?_
  obtain ⟨⟨v21, v22, v23⟩, hb5, h⟩ := obind h
  refine wh_l rfl rfl (oh_call1 [1] fn82 rfl rfl (fun τ hτ => c82 hb5 τ (gl_has (n := 1) hG rfl hτ)) ?_)
  refine wh_q rfl rfl (q_move rfl) ?_
  obtain ⟨⟨v24, v25, v26⟩, hb6, h⟩ := obind h
  refine wh_l rfl rfl (oh_call1 [0] fn82 rfl rfl (fun τ hτ => c82 hb6 τ (gl_has (n := 1) hG rfl hτ)) ?_)
  refine wh_q rfl rfl (q_move rfl) ?_
  obtain ⟨⟨v27, v28, v29⟩, hb7, h⟩ := obind h
  refine wh_l rfl rfl (oh_call1 [0] fn82 rfl rfl (fun τ hτ => c82 hb7 τ (gl_has (n := 1) hG rfl hτ)) ?_)
  refine wh_q rfl rfl (q_move rfl) ?_
  obtain ⟨⟨v30, v31, v32⟩, hb8, h⟩ := obind h
  refine wh_l rfl rfl (oh_call1 [0] fn82 rfl rfl (fun τ hτ => c82 hb8 τ (gl_has (n := 1) hG rfl hτ)) ?_)
  refine wh_q rfl rfl (q_move rfl) ?_
  obtain ⟨⟨v33, v34, v35⟩, hb9, h⟩ := obind h
  refine wh_l rfl rfl (oh_call1 [0] fn117 rfl rfl (fun τ hτ => c117 hb9 τ (gl_has (n := 1) hG rfl hτ)) ?_)
  refine wh_q rfl rfl (q_build pl105 ze105 rfl rfl) ?_
  refine wh_l rfl rfl (oh_alloc (n := 8) (cs := [.sc (.int .i64 0), .sc (.int .i64 0), .sc (.int .i64 0), .sc (.int .i64 0), .sc (.int .i64 0), .sc (.string { data := #[] }), .sc (.slice none 0 0), .sc (.slice none 0 0)]) ze105 rfl rfl (fun k36 => ?_))
  refine wh_n rfl (oh_store (i := 0) [iA v21, iA v24, iA v27, iA v30, iA v33, sA (ByteArray.mk #[]), .sc (.slice none 0 0), .sc (.slice none 0 0)] ty105 rfl rfl rfl rfl rfl rfl rfl ?_)
  refine wh_nil ?_
  refine wmh_seq ?_
  refine wmh_region ?_
  refine wh_q rfl rfl (q_move rfl) ?_
  obtain ⟨⟨v40, v41, v42⟩, hb11, h⟩ := obind h
  refine wh_l rfl rfl (oh_call1 [1] fn83 rfl rfl (fun τ hτ => c83 hb11 τ (gl_has (n := 2) hG rfl hτ)) ?_)
  refine wh_q rfl rfl (q_fieldAddr_own fl105_5 rfl) ?_
  refine wh_n rfl (oh_store (i := 1) [iA v21, iA v24, iA v27, iA v30, iA v33, sA v40, .sc (.slice none 0 0), .sc (.slice none 0 0)] ty9 rfl rfl rfl rfl rfl rfl rfl ?_)
  refine wh_nil ?_
  refine wmh_seq ?_
  refine wmh_seq ?_
  refine wmh_region ?_
  refine wh_q rfl rfl (q_move rfl) ?_
  obtain ⟨⟨v46, v47, v48⟩, hb13, h⟩ := obind h
  refine wh_l rfl rfl (oh_call1 [1] fn81 rfl rfl (fun τ hτ => c81 hb13 τ (gl_has (n := 2) hG rfl hτ)) ?_)
  refine wh_q rfl rfl (q_assign rfl) ?_
  refine wh_nil ?_
  refine wmh_nilacc 108 2 ?_
  obtain ⟨rr41, hr41, h⟩ := obind h
  refine wmh_block ?_
  refine wmh_loop (l84_1.partial_correctness) (fun s L H => match s with | (v49, v50, v51, v53) => ∃ (a52 : Acc) , Sub [(0, .sc (.pointer (some ⟨kb0, 0, none⟩))), (2, .sc (.pointer (some ⟨k4, 0, none⟩))), (3, .sc (.pointer (some ⟨k36, 0, none⟩))), (4, iA v49)] L ∧ SubH [.acc a52 108 2 (List.map CVal.A v53), .blk kb0 (.cells 89 2 [slA 1 u8A v50, errA v51]), .blk k36 (.cells 105 8 [iA v21, iA v24, iA v27, iA v30, iA v33, sA v40, accU a52 v53.length, .sc (.slice none 0 0)]), .blk k4 (.cells 105 8 [iA 0, iA 0, iA 0, iA 0, iA 0, sA (ByteArray.mk #[]), .sc (.slice none 0 0), .sc (.slice none 0 0)]), .frm τ] H) (fun r e L H => match r with | (v72, v73, v75) => ∃ (a74 : Acc), e = .exit 0 ∧ Sub [(0, .sc (.pointer (some ⟨kb0, 0, none⟩))), (2, .sc (.pointer (some ⟨k4, 0, none⟩))), (3, .sc (.pointer (some ⟨k36, 0, none⟩)))] L ∧ SubH [.acc a74 108 2 (List.map CVal.A v75), .blk kb0 (.cells 89 2 [slA 1 u8A v72, errA v73]), .blk k36 (.cells 105 8 [iA v21, iA v24, iA v27, iA v30, iA v33, sA v40, accU a74 v75.length, .sc (.slice none 0 0)]), .blk k4 (.cells 105 8 [iA 0, iA 0, iA 0, iA 0, iA 0, sA (ByteArray.mk #[]), .sc (.slice none 0 0), .sc (.slice none 0 0)]), .frm τ] H) hr41 ⟨none, (sub_of ⟨rfl, rfl, rfl, rfl, trivial⟩), (sub_cuts (is := [0, 0, 0, 0, 0]) rfl)⟩ ?_ ?_
  · intro e L H hp
    obtain ⟨v72, v73, v75⟩ := rr41
    obtain ⟨a74, rfl, hs, hh⟩ := hp
    refine wmh_sub hs hh ?_
    refine wmh_seq ?_
    refine wmh_seq ?_
    refine wmh_region ?_
    refine wh_q rfl rfl (q_move rfl) ?_
    obtain ⟨⟨v79, v80, v81⟩, hb43, h⟩ := obind h
    refine wh_l rfl rfl (oh_call1 [1] fn81 rfl rfl (fun τ hτ => c81 hb43 τ (gl_has (n := 3) hG rfl hτ)) ?_)
    refine wh_q rfl rfl (q_assign rfl) ?_
    refine wh_nil ?_
    refine wmh_nilacc 110 4 ?_
    obtain ⟨rr83, hr83, h⟩ := obind h
    refine wmh_block ?_
    refine wmh_loop (l84_2.partial_correctness) (fun s L H => match s with | (v82, v83, v84, v86) => ∃ (a85 : Acc) , Sub [(0, .sc (.pointer (some ⟨kb0, 0, none⟩))), (2, .sc (.pointer (some ⟨k4, 0, none⟩))), (3, .sc (.pointer (some ⟨k36, 0, none⟩))), (6, iA v82)] L ∧ SubH [.acc a85 110 4 (List.map CAlt.A v86), .blk kb0 (.cells 89 2 [slA 1 u8A v83, errA v84]), .acc a74 108 2 (List.map CVal.A v75), .blk k36 (.cells 105 8 [iA v21, iA v24, iA v27, iA v30, iA v33, sA v40, accU a74 v75.length, accU a85 v86.length]), .blk k4 (.cells 105 8 [iA 0, iA 0, iA 0, iA 0, iA 0, sA (ByteArray.mk #[]), .sc (.slice none 0 0), .sc (.slice none 0 0)]), .frm τ] H) (fun r e L H => match r with | (v117, v118, v120) => ∃ (a119 : Acc), e = .exit 2 ∧ Sub [(2, .sc (.pointer (some ⟨k4, 0, none⟩))), (3, .sc (.pointer (some ⟨k36, 0, none⟩)))] L ∧ SubH [.acc a119 110 4 (List.map CAlt.A v120), .blk kb0 (.cells 89 2 [slA 1 u8A v117, errA v118]), .acc a74 108 2 (List.map CVal.A v75), .blk k36 (.cells 105 8 [iA v21, iA v24, iA v27, iA v30, iA v33, sA v40, accU a74 v75.length, accU a119 v120.length]), .blk k4 (.cells 105 8 [iA 0, iA 0, iA 0, iA 0, iA 0, sA (ByteArray.mk #[]), .sc (.slice none 0 0), .sc (.slice none 0 0)]), .frm τ] H) hr83 ⟨none, (sub_of ⟨rfl, rfl, rfl, rfl, trivial⟩), (sub_cuts (is := [0, 0, 0, 0, 0, 0]) rfl)⟩ ?_ ?_
    · intro e L H hp
      obtain ⟨v117, v118, v120⟩ := rr83
      obtain ⟨a119, rfl, hs, hh⟩ := hp
      refine wmh_sub hs hh ?_
      refine wmh_seq ?_
      refine wmh_frz_in (i := 0) (j := 2) (q := 7) [iA v21, iA v24, iA v27, iA v30, iA v33, sA v40, accU a74 v75.length, slA 4 CAlt.A v120] rfl altA_enc rfl rfl rfl ?_
      refine wmh_frz_in (i := 2) (j := 0) (q := 6) [iA v21, iA v24, iA v27, iA v30, iA v33, sA v40, slA 2 CVal.A v75, slA 4 CAlt.A v120] rfl valA_enc rfl rfl rfl ?_
      refine wmh_region ?_
      refine wh_q rfl rfl (q_load_own ty105 rfl (i := 0) rfl (pick_all rfl)) ?_
      refine wh_n rfl (oh_store (i := 2) [iA v21, iA v24, iA v27, iA v30, iA v33, sA v40, slA 2 CVal.A v75, slA 4 CAlt.A v120] ty105 rfl rfl rfl rfl rfl rfl rfl ?_)
      refine wh_nil ?_
      refine wmh_ret ?_
      obtain rfl := (some_inj h).symm
      exact ⟨_, _, rh_cell rfl ty105 rfl (i := 0) rfl (pick_all rfl), sub_cuts (is := [2, 2]) rfl, rfl, rfl⟩
    · rintro l_ ⟨v82, v83, v84, v86⟩ r h L H hp
      obtain ⟨a85, hs, hh⟩ := hp
      refine wmh_sub hs hh ?_
      refine wmh_seq ?_
      refine wmh_seq ?_
      refine wmh_region ?_
      refine wh_q rfl rfl (q_move rfl) ?_
      refine wh_q rfl rfl (q_bin rfl rfl rfl) ?_
      refine wh_q rfl rfl (q_move rfl) ?_
      refine wh_ite (t := 51) rfl h (fun hc85 h => ?_) (fun hc85 h => ?_)
      · refine wh_q rfl rfl (q_move rfl) ?_
        refine wh_q rfl rfl (q_nilCheck_own rfl) ?_
        refine wh_q rfl rfl (q_fieldAddr_own fl89_1 rfl) ?_
        refine wh_q rfl rfl (q_load_own ty26 rfl (i := 1) rfl rfl) ?_
        refine wh_q rfl rfl (q_nil_eql Tryd.underlying26 rfl (nilB_err _)) ?_
        refine wh_q rfl rfl (q_pick_t rfl rfl) ?_
        refine wh_nil ?_
        refine wmh_ite rfl h (fun hc86 h => ?_) (fun hc86 h => ?_)
        · refine wmh_skip ?_
          refine wmh_seq ?_
          refine wmh_block ?_
          refine wmh_seq ?_
          refine wmh_region ?_
          refine wh_q rfl rfl (q_move rfl) ?_
          obtain ⟨⟨v131, v132, v133⟩, hb90, h⟩ := obind h
          refine wh_l rfl rfl (oh_call1 [1] fn82 rfl rfl (fun τ hτ => c82 hb90 τ (gl_has (n := 4) hG rfl hτ)) ?_)
          refine wh_q rfl rfl (q_move rfl) ?_
          obtain ⟨⟨v134, v135, v136⟩, hb91, h⟩ := obind h
          refine wh_l rfl rfl (oh_call1 [0] fn82 rfl rfl (fun τ hτ => c82 hb91 τ (gl_has (n := 4) hG rfl hτ)) ?_)
          refine wh_q rfl rfl (q_move rfl) ?_
          obtain ⟨⟨v137, v138, v139⟩, hb92, h⟩ := obind h
          refine wh_l rfl rfl (oh_call1 [0] fn82 rfl rfl (fun τ hτ => c82 hb92 τ (gl_has (n := 4) hG rfl hτ)) ?_)
          refine wh_q rfl rfl (q_build pl110 ze110 rfl rfl) ?_
          refine wh_l rfl rfl (oh_alloc (n := 4) (cs := [.sc (.int .i64 0), .sc (.int .i64 0), .sc (.int .i64 0), .sc (.int .i64 0)]) ze110 rfl rfl (fun k140 => ?_))
          refine wh_n rfl (oh_store (i := 0) [iA v131, iA v134, iA v137, iA 0] ty110 rfl rfl rfl rfl rfl rfl rfl ?_)
          refine wh_nil ?_
          refine wmh_seq ?_
          refine wmh_region ?_
          refine wh_q rfl rfl (q_move rfl) ?_
          obtain ⟨⟨v144, v145, v146⟩, hb94, h⟩ := obind h
          refine wh_l rfl rfl (oh_call1 [1] fn117 rfl rfl (fun τ hτ => c117 hb94 τ (gl_has (n := 5) hG rfl hτ)) ?_)
          refine wh_q rfl rfl (q_fieldAddr_own fl110_3 rfl) ?_
          refine wh_n rfl (oh_store (i := 1) [iA v131, iA v134, iA v137, iA v144] ty2 rfl rfl rfl rfl rfl rfl rfl ?_)
          refine wh_nil ?_
          refine wmh_region ?_
          refine wh_q rfl rfl (q_fieldAddr_own fl105_7 rfl) ?_
          refine wh_q rfl rfl (q_load_own ty103 rfl (i := 4) rfl rfl) ?_
          refine wh_q rfl rfl (q_load_own ty110 rfl (i := 0) rfl (pick_all rfl)) ?_
          refine wh_q rfl rfl (q_slice_oneL (CAlt.A (CAlt.mk v131 v134 v137 v144)) el103 zel103 rfl (Le.refl _) rfl rfl) ?_
          obtain ⟨v149, hb96, h⟩ := obind h
          refine wh_l rfl rfl (oh_acc1 (i := 2) (CAlt.mk v131 v134 v137 v144) ap103 ⟨_, Tryd.underlying103⟩ altA_enc rfl rfl rfl hb96 (fun a150 => ?_))
          refine wh_q rfl rfl (q_fieldAddr_own fl105_7 rfl) ?_
          refine wh_n rfl (oh_store (i := 4) [iA v21, iA v24, iA v27, iA v30, iA v33, sA v40, accU a74 v75.length, accU a150 v149.length] ty103 rfl rfl rfl rfl rfl rfl rfl ?_)
          refine wh_nil ?_
          refine wmh_region ?_
          refine wh_q rfl rfl (q_move rfl) ?_
          refine wh_q rfl rfl (q_bin rfl rfl rfl) ?_
          refine wh_q rfl rfl (q_assign rfl) ?_
          refine wh_nil ?_
          exact ⟨((i64 (v82 - 1)), v145, v146, v149), h, a150, (sub_of ⟨rfl, rfl, rfl, rfl, trivial⟩), (sub_cuts (is := [1, 2, 2, 0, 1, 1]) rfl)⟩
        · refine wmh_exit ?_
          obtain rfl := (some_inj h).symm
          exact ⟨a85, rfl, (sub_of ⟨rfl, rfl, trivial⟩), (sub_cuts (is := [0, 0, 0, 0, 0, 0]) rfl)⟩
      · refine wh_sk rfl rfl ?_
        refine wh_sk rfl rfl ?_
        refine wh_sk rfl rfl ?_
        refine wh_sk rfl rfl ?_
        refine wh_sk rfl rfl ?_
        refine wh_q rfl rfl (q_pick_f rfl rfl) ?_
        refine wh_nil ?_
        refine wmh_cond_f rfl ?_
        refine wmh_exit ?_
        obtain rfl := (some_inj h).symm
        exact ⟨a85, rfl, (sub_of ⟨rfl, rfl, trivial⟩), (sub_cuts (is := [0, 0, 0, 0, 0, 0]) rfl)⟩
  · rintro l_ ⟨v49, v50, v51, v53⟩ r h L H hp
    obtain ⟨a52, hs, hh⟩ := hp
    refine wmh_sub hs hh ?_
    refine wmh_seq ?_
    refine wmh_seq ?_
    refine wmh_region ?_
    refine wh_q rfl rfl (q_move rfl) ?_
    refine wh_q rfl rfl (q_bin rfl rfl rfl) ?_
    refine wh_q rfl rfl (q_move rfl) ?_
    refine wh_ite (t := 26) rfl h (fun hc98 h => ?_) (fun hc98 h => ?_)
    · refine wh_q rfl rfl (q_move rfl) ?_
      refine wh_q rfl rfl (q_nilCheck_own rfl) ?_
      refine wh_q rfl rfl (q_fieldAddr_own fl89_1 rfl) ?_
      refine wh_q rfl rfl (q_load_own ty26 rfl (i := 1) rfl rfl) ?_
      refine wh_q rfl rfl (q_nil_eql Tryd.underlying26 rfl (nilB_err _)) ?_
      refine wh_q rfl rfl (q_pick_t rfl rfl) ?_
      refine wh_nil ?_
      refine wmh_ite rfl h (fun hc99 h => ?_) (fun hc99 h => ?_)
      · refine wmh_skip ?_
        refine wmh_seq ?_
        refine wmh_block ?_
        refine wmh_seq ?_
        refine wmh_region ?_
        refine wh_q rfl rfl (q_move rfl) ?_
        obtain ⟨⟨v155, v156, v157⟩, hb101, h⟩ := obind h
        refine wh_l rfl rfl (oh_call1 [1] fn82 rfl rfl (fun τ hτ => c82 hb101 τ (gl_has (n := 3) hG rfl hτ)) ?_)
        refine wh_q rfl rfl (q_build pl108 ze108 rfl rfl) ?_
        refine wh_l rfl rfl (oh_alloc (n := 2) (cs := [.sc (.int .i64 0), .sc (.int .i64 0)]) ze108 rfl rfl (fun k158 => ?_))
        refine wh_n rfl (oh_store (i := 0) [iA v155, iA 0] ty108 rfl rfl rfl rfl rfl rfl rfl ?_)
        refine wh_nil ?_
        refine wmh_seq ?_
        refine wmh_region ?_
        refine wh_q rfl rfl (q_move rfl) ?_
        obtain ⟨⟨v162, v163, v164⟩, hb103, h⟩ := obind h
        refine wh_l rfl rfl (oh_call1 [1] fn117 rfl rfl (fun τ hτ => c117 hb103 τ (gl_has (n := 4) hG rfl hτ)) ?_)
        refine wh_q rfl rfl (q_fieldAddr_own fl108_1 rfl) ?_
        refine wh_n rfl (oh_store (i := 1) [iA v155, iA v162] ty2 rfl rfl rfl rfl rfl rfl rfl ?_)
        refine wh_nil ?_
        refine wmh_region ?_
        refine wh_q rfl rfl (q_fieldAddr_own fl105_6 rfl) ?_
        refine wh_q rfl rfl (q_load_own ty102 rfl (i := 3) rfl rfl) ?_
        refine wh_q rfl rfl (q_load_own ty108 rfl (i := 0) rfl (pick_all rfl)) ?_
        refine wh_q rfl rfl (q_slice_oneL (CVal.A (CVal.mk v155 v162)) el102 zel102 rfl (Le.refl _) rfl rfl) ?_
        obtain ⟨v167, hb105, h⟩ := obind h
        refine wh_l rfl rfl (oh_acc1 (i := 2) (CVal.mk v155 v162) ap102 ⟨_, Tryd.underlying102⟩ valA_enc rfl rfl rfl hb105 (fun a168 => ?_))
        refine wh_q rfl rfl (q_fieldAddr_own fl105_6 rfl) ?_
        refine wh_n rfl (oh_store (i := 3) [iA v21, iA v24, iA v27, iA v30, iA v33, sA v40, accU a168 v167.length, .sc (.slice none 0 0)] ty102 rfl rfl rfl rfl rfl rfl rfl ?_)
        refine wh_nil ?_
        refine wmh_region ?_
        refine wh_q rfl rfl (q_move rfl) ?_
        refine wh_q rfl rfl (q_bin rfl rfl rfl) ?_
        refine wh_q rfl rfl (q_assign rfl) ?_
        refine wh_nil ?_
        exact ⟨((i64 (v49 - 1)), v163, v164, v167), h, a168, (sub_of ⟨rfl, rfl, rfl, rfl, trivial⟩), (sub_cuts (is := [1, 2, 0, 1, 1]) rfl)⟩
      · refine wmh_exit ?_
        obtain rfl := (some_inj h).symm
        exact ⟨a52, rfl, (sub_of ⟨rfl, rfl, rfl, trivial⟩), (sub_cuts (is := [0, 0, 0, 0, 0]) rfl)⟩
    · refine wh_sk rfl rfl ?_
      refine wh_sk rfl rfl ?_
      refine wh_sk rfl rfl ?_
      refine wh_sk rfl rfl ?_
      refine wh_sk rfl rfl ?_
      refine wh_q rfl rfl (q_pick_f rfl rfl) ?_
      refine wh_nil ?_
      refine wmh_cond_f rfl ?_
      refine wmh_exit ?_
      obtain rfl := (some_inj h).symm
      exact ⟨a52, rfl, (sub_of ⟨rfl, rfl, rfl, trivial⟩), (sub_cuts (is := [0, 0, 0, 0, 0]) rfl)⟩
def l42_3 (s : Int × (List UInt8) × GErr × (List CIns)) : Option ((List UInt8) × GErr × (List CIns)) :=
match s with
| (v101, v102, v103, v105) =>
(if (decide (0 < v101)) then
some (v103.isNil)
else
some false : Option Bool) >>= fun v121 =>
if v121 then
(p84 v102 v103) >>= fun (v127, v128, v129) =>
(app1? 105 v105 v127) >>= fun v130 =>
l42_3 ((i64 (v101 - 1)), v128, v129, v130)
else
some (v102, v103, v105)
partial_fixpoint
def l42_2 (s : Int × (List UInt8) × GErr × (List CFun)) : Option ((List UInt8) × GErr × (List CFun)) :=
match s with
| (v56, v57, v58, v60) =>
if (decide (0 < v56)) then
if (v58.isNil) then
(p82 0 262144 v57 v58) >>= fun (v136, v137, v138) =>
(p82 0 524288 v137 v138) >>= fun (v146, v147, v148) =>
(p82 0 262144 v147 v148) >>= fun (v149, v150, v151) =>
(app1? 25 v60 (CFun.mk v136 v146 v149)) >>= fun v154 =>
l42_2 ((i64 (v56 - 1)), v150, v151, v154)
else
some (v57, v58, v60)
else
some (v57, v58, v60)
partial_fixpoint
def l42_1 (s : Int × (List UInt8) × GErr × (List CTag)) : Option ((List UInt8) × GErr × (List CTag)) :=
match s with
| (v11, v12, v13, v15) =>
if (decide (0 < v11)) then
if (v13.isNil) then
(p82 1 6 v12 v13) >>= fun (v160, v161, v162) =>
(p83 v161 v162) >>= fun (v167, v168, v169) =>
(p82 0 262144 v168 v169) >>= fun (v176, v177, v178) =>
(p82 0 60 v177 v178) >>= fun (v179, v180, v181) =>
(app1? 41 v15 (CTag.mk v160 v167 v176 v179)) >>= fun v184 =>
l42_1 ((i64 (v11 - 1)), v180, v181, v184)
else
some (v12, v13, v15)
else
some (v12, v13, v15)
partial_fixpoint
def p42 : (List UInt8) → GErr → Option ((Option CCode) × (List UInt8) × GErr)
| v1, v2 =>
(p81 262144 v1 v2) >>= fun (v8, v9, v10) =>
(l42_1 (v8, v9, v10, [])) >>= fun rr41 =>
(match rr41 with
| (v46, v47, v49) =>
(p81 262144 v46 v47) >>= fun (v53, v54, v55) =>
(l42_2 (v53, v54, v55, [])) >>= fun rr77 =>
(match rr77 with
| (v85, v86, v88) =>
(p82 0 262144 v85 v86) >>= fun (v92, v93, v94) =>
(p81 262144 v93 v94) >>= fun (v98, v99, v100) =>
(l42_3 (v98, v99, v100, [])) >>= fun rr127 =>
(match rr127 with
| (v117, v118, v120) =>
some ((some (CCode.mk v49 v88 v120 v92)), v117, v118))))
theorem c42 [ErrC] {v1 : List UInt8} {v2 : GErr} {kb0 : Nat} {r : (Option CCode) × (List UInt8) × GErr} (h : p42 v1 v2 = some r) (τ : Store) (hG : GL gls τ) : CMH Tryd.prog 42 [.sc (.pointer (some ⟨kb0, 0, none⟩))] [.blk kb0 (.cells 89 2 [slA 1 u8A v1, errA v2]), .frm τ] (Ret1 (optA CCode.A r.1) [.blk kb0 (.cells 89 2 [slA 1 u8A r.2.1, errA r.2.2])] τ) := by
  rw [p42.eq_1] at h
  refine ch_enter Tryd.func42 rfl Tryd.ntmps42 rfl ?_
  refine wmh_seq ?_
  refine wmh_region ?_
  refine wh_q rfl rfl (q_assign rfl) ?_
  refine wh_nil ?_
  refine wmh_seq ?_
  refine wmh_region ?_
  refine wh_q rfl rfl (q_build pl96 ze96 rfl rfl) ?_
  refine wh_l rfl rfl (oh_box (n := 4) rfl rfl rfl (fun k4 => ?_))
  refine wh_q rfl rfl (q_assign rfl) ?_
  refine wh_nil ?_
  refine wmh_seq ?_
  refine wmh_seq ?_
  refine wmh_region ?_
  refine wh_q rfl rfl (q_move rfl) ?_
  obtain ⟨⟨v8, v9, v10⟩, hb1, h⟩ := obind h
  refine wh_l rfl rfl (oh_call1 [1] fn81 rfl rfl (fun τ hτ => c81 hb1 τ (gl_has (n := 1) hG rfl hτ)) ?_)
  refine wh_q rfl rfl (q_assign rfl) ?_
  refine wh_nil ?_
  refine wmh_nilacc 98 4 ?_
  obtain ⟨rr41, hr41, h⟩ := obind h
  refine wmh_block ?_
  refine wmh_loop (l42_1.partial_correctness) (fun s L H => match s with | (v11, v12, v13, v15) => ∃ (a14 : Acc) , Sub [(0, .sc (.pointer (some ⟨kb0, 0, none⟩))), (3, .sc (.pointer (some ⟨k4, 0, none⟩))), (4, iA v11)] L ∧ SubH [.acc a14 98 4 (List.map CTag.A v15), .blk kb0 (.cells 89 2 [slA 1 u8A v12, errA v13]), .blk k4 (.cells 96 4 [accU a14 v15.length, .sc (.slice none 0 0), .sc (.slice none 0 0), iA 0]), .frm τ] H) (fun r e L H => match r with | (v46, v47, v49) => ∃ (a48 : Acc), e = .exit 0 ∧ Sub [(0, .sc (.pointer (some ⟨kb0, 0, none⟩))), (3, .sc (.pointer (some ⟨k4, 0, none⟩)))] L ∧ SubH [.acc a48 98 4 (List.map CTag.A v49), .blk kb0 (.cells 89 2 [slA 1 u8A v46, errA v47]), .blk k4 (.cells 96 4 [accU a48 v49.length, .sc (.slice none 0 0), .sc (.slice none 0 0), iA 0]), .frm τ] H) hr41 ⟨none, (sub_of ⟨rfl, rfl, rfl, trivial⟩), (sub_cuts (is := [0, 0, 0, 0]) rfl)⟩ ?_ ?_
  · intro e L H hp
    obtain ⟨v46, v47, v49⟩ := rr41
    obtain ⟨a48, rfl, hs, hh⟩ := hp
    refine wmh_sub hs hh ?_
    refine wmh_seq ?_
    refine wmh_seq ?_
    refine wmh_region ?_
    refine wh_q rfl rfl (q_move rfl) ?_
    obtain ⟨⟨v53, v54, v55⟩, hb43, h⟩ := obind h
    refine wh_l rfl rfl (oh_call1 [1] fn81 rfl rfl (fun τ hτ => c81 hb43 τ (gl_has (n := 2) hG rfl hτ)) ?_)
    refine wh_q rfl rfl (q_assign rfl) ?_
    refine wh_nil ?_
    refine wmh_nilacc 101 3 ?_
    obtain ⟨rr77, hr77, h⟩ := obind h
    refine wmh_block ?_
    refine wmh_loop (l42_2.partial_correctness) (fun s L H => match s with | (v56, v57, v58, v60) => ∃ (a59 : Acc) , Sub [(0, .sc (.pointer (some ⟨kb0, 0, none⟩))), (3, .sc (.pointer (some ⟨k4, 0, none⟩))), (6, iA v56)] L ∧ SubH [.acc a59 101 3 (List.map CFun.A v60), .blk kb0 (.cells 89 2 [slA 1 u8A v57, errA v58]), .acc a48 98 4 (List.map CTag.A v49), .blk k4 (.cells 96 4 [accU a48 v49.length, accU a59 v60.length, .sc (.slice none 0 0), iA 0]), .frm τ] H) (fun r e L H => match r with | (v85, v86, v88) => ∃ (a87 : Acc), e = .exit 2 ∧ Sub [(0, .sc (.pointer (some ⟨kb0, 0, none⟩))), (3, .sc (.pointer (some ⟨k4, 0, none⟩)))] L ∧ SubH [.acc a87 101 3 (List.map CFun.A v88), .blk kb0 (.cells 89 2 [slA 1 u8A v85, errA v86]), .acc a48 98 4 (List.map CTag.A v49), .blk k4 (.cells 96 4 [accU a48 v49.length, accU a87 v88.length, .sc (.slice none 0 0), iA 0]), .frm τ] H) hr77 ⟨none, (sub_of ⟨rfl, rfl, rfl, trivial⟩), (sub_cuts (is := [0, 0, 0, 0, 0]) rfl)⟩ ?_ ?_
    · intro e L H hp
      obtain ⟨v85, v86, v88⟩ := rr77
      obtain ⟨a87, rfl, hs, hh⟩ := hp
      refine wmh_sub hs hh ?_
      refine wmh_seq ?_
      refine wmh_region ?_
      refine wh_q rfl rfl (q_move rfl) ?_
      refine wh_q rfl rfl (q_move rfl) ?_
      obtain ⟨⟨v92, v93, v94⟩, hb79, h⟩ := obind h
      refine wh_l rfl rfl (oh_call1 [1] fn82 rfl rfl (fun τ hτ => c82 hb79 τ (gl_has (n := 3) hG rfl hτ)) ?_)
      refine wh_q rfl rfl (q_nilCheck_own rfl) ?_
      refine wh_q rfl rfl (q_fieldAddr_own fl96_3 rfl) ?_
      refine wh_n rfl (oh_store (i := 3) [accU a48 v49.length, accU a87 v88.length, .sc (.slice none 0 0), iA v92] ty3 rfl rfl rfl rfl rfl rfl rfl ?_)
      refine wh_nil ?_
      refine wmh_seq ?_
      refine wmh_seq ?_
      refine wmh_region ?_
      refine wh_q rfl rfl (q_move rfl) ?_
      obtain ⟨⟨v98, v99, v100⟩, hb81, h⟩ := obind h
      refine wh_l rfl rfl (oh_call1 [1] fn81 rfl rfl (fun τ hτ => c81 hb81 τ (gl_has (n := 3) hG rfl hτ)) ?_)
      refine wh_q rfl rfl (q_assign rfl) ?_
      refine wh_nil ?_
      refine wmh_nilacc 105 8 ?_
      obtain ⟨rr127, hr127, h⟩ := obind h
      refine wmh_block ?_
      refine wmh_loop (l42_3.partial_correctness) (fun s L H => match s with | (v101, v102, v103, v105) => ∃ (a104 : Acc) , Sub [(0, .sc (.pointer (some ⟨kb0, 0, none⟩))), (3, .sc (.pointer (some ⟨k4, 0, none⟩))), (8, iA v101)] L ∧ SubH [.acc a104 105 8 (List.map CIns.A v105), .blk kb0 (.cells 89 2 [slA 1 u8A v102, errA v103]), .blk k4 (.cells 96 4 [accU a48 v49.length, accU a87 v88.length, accU a104 v105.length, iA v92]), .acc a87 101 3 (List.map CFun.A v88), .acc a48 98 4 (List.map CTag.A v49), .frm τ] H) (fun r e L H => match r with | (v117, v118, v120) => ∃ (a119 : Acc), e = .exit 4 ∧ Sub [(3, .sc (.pointer (some ⟨k4, 0, none⟩)))] L ∧ SubH [.acc a119 105 8 (List.map CIns.A v120), .blk kb0 (.cells 89 2 [slA 1 u8A v117, errA v118]), .blk k4 (.cells 96 4 [accU a48 v49.length, accU a87 v88.length, accU a119 v120.length, iA v92]), .acc a87 101 3 (List.map CFun.A v88), .acc a48 98 4 (List.map CTag.A v49), .frm τ] H) hr127 ⟨none, (sub_of ⟨rfl, rfl, rfl, trivial⟩), (sub_cuts (is := [0, 0, 0, 0, 0, 0]) rfl)⟩ ?_ ?_
      · intro e L H hp
        obtain ⟨v117, v118, v120⟩ := rr127
        obtain ⟨a119, rfl, hs, hh⟩ := hp
        refine wmh_sub hs hh ?_
        refine wmh_seq ?_
        refine wmh_region ?_
        refine wh_q rfl rfl (q_move rfl) ?_
        refine wh_q rfl rfl (q_assign rfl) ?_
        refine wh_nil ?_
        refine wmh_frz_in (i := 0) (j := 1) (q := 2) [accU a48 v49.length, accU a87 v88.length, slA 8 CIns.A v120, iA v92] rfl insA_enc rfl rfl rfl ?_
        refine wmh_frz_in (i := 2) (j := 0) (q := 1) [accU a48 v49.length, slA 3 CFun.A v88, slA 8 CIns.A v120, iA v92] rfl funA_enc rfl rfl rfl ?_
        refine wmh_frz_in (i := 2) (j := 0) (q := 0) [slA 4 CTag.A v49, slA 3 CFun.A v88, slA 8 CIns.A v120, iA v92] rfl tagA_enc rfl rfl rfl ?_
        refine wmh_frz_ref (i := 0) (CCode.A (CCode.mk v49 v88 v120 v92)) [2, 3, 107] rfl rfl ⟨rfl, rfl, rfl, trivial⟩ ?_
        refine wmh_ret ?_
        obtain rfl := (some_inj h).symm
        exact ⟨_, _, rh_one rfl rfl, sub_cuts (is := [0, 0]) rfl, rfl, rfl⟩
      · rintro l_ ⟨v101, v102, v103, v105⟩ r h L H hp
        obtain ⟨a104, hs, hh⟩ := hp
        refine wmh_sub hs hh ?_
        refine wmh_seq ?_
        obtain ⟨jr135, hx, hj135⟩ := obind h
        refine wmh_join (ι := Bool) (fun i L H => match i with | v121 => jr135 = v121 ∧ Sub [(0, .sc (.pointer (some ⟨kb0, 0, none⟩))), (3, .sc (.pointer (some ⟨k4, 0, none⟩))), (8, iA v101), (93, .sc (.bool v121))] L ∧ SubH [.acc a104 105 8 (List.map CIns.A v105), .blk kb0 (.cells 89 2 [slA 1 u8A v102, errA v103]), .blk k4 (.cells 96 4 [accU a48 v49.length, accU a87 v88.length, accU a104 v105.length, iA v92]), .acc a87 101 3 (List.map CFun.A v88), .acc a48 98 4 (List.map CTag.A v49), .frm τ] H) ?_ ?_
        · have h := hx
          refine wmh_region ?_
          refine wh_q rfl rfl (q_move rfl) ?_
          refine wh_q rfl rfl (q_bin rfl rfl rfl) ?_
          refine wh_q rfl rfl (q_move rfl) ?_
          refine wh_ite (t := 87) rfl h (fun hc137 h => ?_) (fun hc137 h => ?_)
          · refine wh_q rfl rfl (q_move rfl) ?_
            refine wh_q rfl rfl (q_nilCheck_own rfl) ?_
            refine wh_q rfl rfl (q_fieldAddr_own fl89_1 rfl) ?_
            refine wh_q rfl rfl (q_load_own ty26 rfl (i := 1) rfl rfl) ?_
            refine wh_q rfl rfl (q_nil_eql Tryd.underlying26 rfl (nilB_err _)) ?_
            refine wh_q rfl rfl (q_pick_t rfl rfl) ?_
            refine wh_nil ?_
            obtain rfl := (some_inj h).symm
            exact ⟨(v103.isNil), rfl, (sub_of ⟨rfl, rfl, rfl, rfl, trivial⟩), (sub_cuts (is := [0, 0, 0, 0, 0, 0]) rfl)⟩
          · refine wh_sk rfl rfl ?_
            refine wh_sk rfl rfl ?_
            refine wh_sk rfl rfl ?_
            refine wh_sk rfl rfl ?_
            refine wh_sk rfl rfl ?_
            refine wh_q rfl rfl (q_pick_f rfl rfl) ?_
            refine wh_nil ?_
            obtain rfl := (some_inj h).symm
            exact ⟨false, rfl, (sub_of ⟨rfl, rfl, rfl, rfl, trivial⟩), (sub_cuts (is := [0, 0, 0, 0, 0, 0]) rfl)⟩
        · rintro v121 L H hp
          obtain ⟨rfl, hs, hh⟩ := hp
          have h := hj135
          refine wmh_sub hs hh ?_
          refine wmh_ite rfl h (fun hc138 h => ?_) (fun hc138 h => ?_)
          · refine wmh_skip ?_
            refine wmh_seq ?_
            refine wmh_block ?_
            refine wmh_drawn _ [6, 8, 11] [0, 1, 2, 3, 4, 5, 6, 7, 8, 9, 10, 11] mixed (by kernel_rfl) (sub_cuts (is := [2]) rfl) ?_
            refine vh_q rfl rfl rfl rfl (q_move rfl) ?_
            refine vh_q rfl rfl rfl rfl (q_move rfl) ?_
            refine vh_q rfl rfl rfl rfl (q_nilCheck_own rfl) ?_
            refine vh_q rfl rfl rfl rfl (q_fieldAddr_own fl96_2 rfl) ?_
            refine vh_q rfl rfl rfl rfl (q_load_own ty94 rfl (i := 0) rfl rfl) ?_
            refine vh_q rfl rfl rfl rfl (q_move rfl) ?_
            obtain ⟨⟨v127, v128, v129⟩, hb141, h⟩ := obind h
            refine vh_l rfl rfl rfl rfl (oh_call1 [1] fn84 rfl rfl (fun τ hτ => c84 hb141 τ (gl_has (n := 4) hG rfl hτ)) ⟨.inr (sub_cuts (is := [2]) rfl), ?_⟩)
            refine vh_q rfl rfl rfl rfl (q_slice_oneL (CIns.A v127) el94 zel94 rfl (Le.refl _) rfl rfl) ?_
            obtain ⟨v130, hb142, h⟩ := obind h
            refine vh_l rfl rfl rfl rfl (oh_acc1 (i := 1) v127 ap94 ⟨_, Tryd.underlying94⟩ insA_enc rfl rfl rfl hb142 (fun a131 => ⟨.inr (sub_cuts (is := [2]) rfl), ?_⟩))
            refine vh_q rfl rfl rfl rfl (q_nilCheck_own rfl) ?_
            refine vh_q rfl rfl rfl rfl (q_fieldAddr_own fl96_2 rfl) ?_
            refine vh_n rfl rfl rfl (oh_store (i := 2) [accU a48 v49.length, accU a87 v88.length, accU a131 v130.length, iA v92] ty94 rfl rfl rfl rfl rfl rfl rfl ⟨.inl (by kernel_rfl), ?_⟩)
            refine vh_nil ?_
            refine wmh_region ?_
            refine wh_q rfl rfl (q_move rfl) ?_
            refine wh_q rfl rfl (q_bin rfl rfl rfl) ?_
            refine wh_q rfl rfl (q_assign rfl) ?_
            refine wh_nil ?_
            exact ⟨((i64 (v101 - 1)), v128, v129, v130), h, a131, (sub_of ⟨rfl, rfl, rfl, trivial⟩), (sub_cuts (is := [1, 1, 0, 0, 0, 0]) rfl)⟩
          · refine wmh_exit ?_
            obtain rfl := (some_inj h).symm
            exact ⟨a104, rfl, (sub_of ⟨rfl, trivial⟩), (sub_cuts (is := [0, 0, 0, 0, 0, 0]) rfl)⟩
    · rintro l_ ⟨v56, v57, v58, v60⟩ r h L H hp
      obtain ⟨a59, hs, hh⟩ := hp
      refine wmh_sub hs hh ?_
      refine wmh_seq ?_
      refine wmh_seq ?_
      refine wmh_region ?_
      refine wh_q rfl rfl (q_move rfl) ?_
      refine wh_q rfl rfl (q_bin rfl rfl rfl) ?_
      refine wh_q rfl rfl (q_move rfl) ?_
      refine wh_ite (t := 50) rfl h (fun hc144 h => ?_) (fun hc144 h => ?_)
      · refine wh_q rfl rfl (q_move rfl) ?_
        refine wh_q rfl rfl (q_nilCheck_own rfl) ?_
        refine wh_q rfl rfl (q_fieldAddr_own fl89_1 rfl) ?_
        refine wh_q rfl rfl (q_load_own ty26 rfl (i := 1) rfl rfl) ?_
        refine wh_q rfl rfl (q_nil_eql Tryd.underlying26 rfl (nilB_err _)) ?_
        refine wh_q rfl rfl (q_pick_t rfl rfl) ?_
        refine wh_nil ?_
        refine wmh_ite rfl h (fun hc145 h => ?_) (fun hc145 h => ?_)
        · refine wmh_skip ?_
          refine wmh_seq ?_
          refine wmh_block ?_
          refine wmh_seq ?_
          refine wmh_region ?_
          refine wh_q rfl rfl (q_move rfl) ?_
          obtain ⟨⟨v136, v137, v138⟩, hb147, h⟩ := obind h
          refine wh_l rfl rfl (oh_call1 [1] fn82 rfl rfl (fun τ hτ => c82 hb147 τ (gl_has (n := 3) hG rfl hτ)) ?_)
          refine wh_q rfl rfl (q_build pl101 ze101 rfl rfl) ?_
          refine wh_l rfl rfl (oh_alloc (n := 3) (cs := [.sc (.int .i64 0), .sc (.int .i64 0), .sc (.int .i64 0)]) ze101 rfl rfl (fun k139 => ?_))
          refine wh_n rfl (oh_store (i := 0) [iA v136, iA 0, iA 0] ty101 rfl rfl rfl rfl rfl rfl rfl ?_)
          refine wh_nil ?_
          refine wmh_seq ?_
          refine wmh_region ?_
          refine wh_q rfl rfl (q_move rfl) ?_
          obtain ⟨⟨v146, v147, v148⟩, hb150, h⟩ := obind h
          refine wh_l rfl rfl (oh_call1 [1] fn82 rfl rfl (fun τ hτ => c82 hb150 τ (gl_has (n := 4) hG rfl hτ)) ?_)
          refine wh_q rfl rfl (q_move rfl) ?_
          obtain ⟨⟨v149, v150, v151⟩, hb151, h⟩ := obind h
          refine wh_l rfl rfl (oh_call1 [0] fn82 rfl rfl (fun τ hτ => c82 hb151 τ (gl_has (n := 4) hG rfl hτ)) ?_)
          refine wh_q rfl rfl (q_fieldAddr_own fl101_1 rfl) ?_
          refine wh_n rfl (oh_store (i := 1) [iA v136, iA v146, iA 0] ty3 rfl rfl rfl rfl rfl rfl rfl ?_)
          refine wh_q rfl rfl (q_fieldAddr_own fl101_2 rfl) ?_
          refine wh_n rfl (oh_store (i := 0) [iA v136, iA v146, iA v149] ty3 rfl rfl rfl rfl rfl rfl rfl ?_)
          refine wh_nil ?_
          refine wmh_drawn _ [7, 10] [0, 1, 2, 3, 4, 5, 6, 7, 8, 9, 10] mixed (by kernel_rfl) (sub_cuts (is := [0, 3]) rfl) ?_
          refine vh_q rfl rfl rfl rfl (q_move rfl) ?_
          refine vh_q rfl rfl rfl rfl (q_move rfl) ?_
          refine vh_q rfl rfl rfl rfl (q_nilCheck_own rfl) ?_
          refine vh_q rfl rfl rfl rfl (q_fieldAddr_own fl96_1 rfl) ?_
          refine vh_q rfl rfl rfl rfl (q_load_own ty93 rfl (i := 1) rfl rfl) ?_
          refine vh_q rfl rfl rfl rfl (q_load_own ty101 rfl (i := 0) rfl (pick_all rfl)) ?_
          refine vh_q rfl rfl rfl rfl (q_slice_oneL (CFun.A (CFun.mk v136 v146 v149)) el93 zel93 rfl (Le.refl _) rfl rfl) ?_
          obtain ⟨v154, hb153, h⟩ := obind h
          refine vh_l rfl rfl rfl rfl (oh_acc1 (i := 2) (CFun.mk v136 v146 v149) ap93 ⟨_, Tryd.underlying93⟩ funA_enc rfl rfl rfl hb153 (fun a155 => ⟨.inr (sub_cuts (is := [1, 3]) rfl), ?_⟩))
          refine vh_q rfl rfl rfl rfl (q_nilCheck_own rfl) ?_
          refine vh_q rfl rfl rfl rfl (q_fieldAddr_own fl96_1 rfl) ?_
          refine vh_n rfl rfl rfl (oh_store (i := 4) [accU a48 v49.length, accU a155 v154.length, .sc (.slice none 0 0), iA 0] ty93 rfl rfl rfl rfl rfl rfl rfl ⟨.inl (by kernel_rfl), ?_⟩)
          refine vh_nil ?_
          refine wmh_region ?_
          refine wh_q rfl rfl (q_move rfl) ?_
          refine wh_q rfl rfl (q_bin rfl rfl rfl) ?_
          refine wh_q rfl rfl (q_assign rfl) ?_
          refine wh_nil ?_
          exact ⟨((i64 (v56 - 1)), v150, v151, v154), h, a155, (sub_of ⟨rfl, rfl, rfl, trivial⟩), (sub_cuts (is := [1, 2, 2, 0, 1]) rfl)⟩
        · refine wmh_exit ?_
          obtain rfl := (some_inj h).symm
          exact ⟨a59, rfl, (sub_of ⟨rfl, rfl, trivial⟩), (sub_cuts (is := [0, 0, 0, 0, 0]) rfl)⟩
      · refine wh_sk rfl rfl ?_
        refine wh_sk rfl rfl ?_
        refine wh_sk rfl rfl ?_
        refine wh_sk rfl rfl ?_
        refine wh_sk rfl rfl ?_
        refine wh_q rfl rfl (q_pick_f rfl rfl) ?_
        refine wh_nil ?_
        refine wmh_cond_f rfl ?_
        refine wmh_exit ?_
        obtain rfl := (some_inj h).symm
        exact ⟨a59, rfl, (sub_of ⟨rfl, rfl, trivial⟩), (sub_cuts (is := [0, 0, 0, 0, 0]) rfl)⟩
  · rintro l_ ⟨v11, v12, v13, v15⟩ r h L H hp
    obtain ⟨a14, hs, hh⟩ := hp
    refine wmh_sub hs hh ?_
    refine wmh_seq ?_
    refine wmh_seq ?_
    refine wmh_region ?_
    refine wh_q rfl rfl (q_move rfl) ?_
    refine wh_q rfl rfl (q_bin rfl rfl rfl) ?_
    refine wh_q rfl rfl (q_move rfl) ?_
    refine wh_ite (t := 15) rfl h (fun hc155 h => ?_) (fun hc155 h => ?_)
    · refine wh_q rfl rfl (q_move rfl) ?_
      refine wh_q rfl rfl (q_nilCheck_own rfl) ?_
      refine wh_q rfl rfl (q_fieldAddr_own fl89_1 rfl) ?_
      refine wh_q rfl rfl (q_load_own ty26 rfl (i := 1) rfl rfl) ?_
      refine wh_q rfl rfl (q_nil_eql Tryd.underlying26 rfl (nilB_err _)) ?_
      refine wh_q rfl rfl (q_pick_t rfl rfl) ?_
      refine wh_nil ?_
      refine wmh_ite rfl h (fun hc156 h => ?_) (fun hc156 h => ?_)
      · refine wmh_skip ?_
        refine wmh_seq ?_
        refine wmh_block ?_
        refine wmh_seq ?_
        refine wmh_region ?_
        refine wh_q rfl rfl (q_move rfl) ?_
        obtain ⟨⟨v160, v161, v162⟩, hb158, h⟩ := obind h
        refine wh_l rfl rfl (oh_call1 [1] fn82 rfl rfl (fun τ hτ => c82 hb158 τ (gl_has (n := 2) hG rfl hτ)) ?_)
        refine wh_q rfl rfl (q_build pl98 ze98 rfl rfl) ?_
        refine wh_l rfl rfl (oh_alloc (n := 4) (cs := [.sc (.int .i64 0), .sc (.string { data := #[] }), .sc (.int .i64 0), .sc (.int .i64 0)]) ze98 rfl rfl (fun k163 => ?_))
        refine wh_n rfl (oh_store (i := 0) [iA v160, sA (ByteArray.mk #[]), iA 0, iA 0] ty98 rfl rfl rfl rfl rfl rfl rfl ?_)
        refine wh_nil ?_
        refine wmh_seq ?_
        refine wmh_region ?_
        refine wh_q rfl rfl (q_move rfl) ?_
        obtain ⟨⟨v167, v168, v169⟩, hb160, h⟩ := obind h
        refine wh_l rfl rfl (oh_call1 [1] fn83 rfl rfl (fun τ hτ => c83 hb160 τ (gl_has (n := 3) hG rfl hτ)) ?_)
        refine wh_q rfl rfl (q_fieldAddr_own fl98_1 rfl) ?_
        refine wh_n rfl (oh_store (i := 1) [iA v160, sA v167, iA 0, iA 0] ty9 rfl rfl rfl rfl rfl rfl rfl ?_)
        refine wh_nil ?_
        refine wmh_seq ?_
        refine wmh_region ?_
        refine wh_q rfl rfl (q_move rfl) ?_
        obtain ⟨⟨v176, v177, v178⟩, hb163, h⟩ := obind h
        refine wh_l rfl rfl (oh_call1 [1] fn82 rfl rfl (fun τ hτ => c82 hb163 τ (gl_has (n := 3) hG rfl hτ)) ?_)
        refine wh_q rfl rfl (q_move rfl) ?_
        obtain ⟨⟨v179, v180, v181⟩, hb164, h⟩ := obind h
        refine wh_l rfl rfl (oh_call1 [0] fn82 rfl rfl (fun τ hτ => c82 hb164 τ (gl_has (n := 3) hG rfl hτ)) ?_)
        refine wh_q rfl rfl (q_fieldAddr_own fl98_2 rfl) ?_
        refine wh_n rfl (oh_store (i := 1) [iA v160, sA v167, iA v176, iA 0] ty3 rfl rfl rfl rfl rfl rfl rfl ?_)
        refine wh_q rfl rfl (q_fieldAddr_own fl98_3 rfl) ?_
        refine wh_n rfl (oh_store (i := 0) [iA v160, sA v167, iA v176, iA v179] ty3 rfl rfl rfl rfl rfl rfl rfl ?_)
        refine wh_nil ?_
        refine wmh_drawn _ [7, 10] [0, 1, 2, 3, 4, 5, 6, 7, 8, 9, 10] mixed (by kernel_rfl) (sub_cuts (is := [0, 2]) rfl) ?_
        refine vh_q rfl rfl rfl rfl (q_move rfl) ?_
        refine vh_q rfl rfl rfl rfl (q_move rfl) ?_
        refine vh_q rfl rfl rfl rfl (q_nilCheck_own rfl) ?_
        refine vh_q rfl rfl rfl rfl (q_fieldAddr_own fl96_0 rfl) ?_
        refine vh_q rfl rfl rfl rfl (q_load_own ty92 rfl (i := 1) rfl rfl) ?_
        refine vh_q rfl rfl rfl rfl (q_load_own ty98 rfl (i := 0) rfl (pick_all rfl)) ?_
        refine vh_q rfl rfl rfl rfl (q_slice_oneL (CTag.A (CTag.mk v160 v167 v176 v179)) el92 zel92 rfl (Le.refl _) rfl rfl) ?_
        obtain ⟨v184, hb166, h⟩ := obind h
        refine vh_l rfl rfl rfl rfl (oh_acc1 (i := 2) (CTag.mk v160 v167 v176 v179) ap92 ⟨_, Tryd.underlying92⟩ tagA_enc rfl rfl rfl hb166 (fun a185 => ⟨.inr (sub_cuts (is := [1, 2]) rfl), ?_⟩))
        refine vh_q rfl rfl rfl rfl (q_nilCheck_own rfl) ?_
        refine vh_q rfl rfl rfl rfl (q_fieldAddr_own fl96_0 rfl) ?_
        refine vh_n rfl rfl rfl (oh_store (i := 3) [accU a185 v184.length, .sc (.slice none 0 0), .sc (.slice none 0 0), iA 0] ty92 rfl rfl rfl rfl rfl rfl rfl ⟨.inl (by kernel_rfl), ?_⟩)
        refine vh_nil ?_
        refine wmh_region ?_
        refine wh_q rfl rfl (q_move rfl) ?_
        refine wh_q rfl rfl (q_bin rfl rfl rfl) ?_
        refine wh_q rfl rfl (q_assign rfl) ?_
        refine wh_nil ?_
        exact ⟨((i64 (v11 - 1)), v180, v181, v184), h, a185, (sub_of ⟨rfl, rfl, rfl, trivial⟩), (sub_cuts (is := [1, 2, 0, 1]) rfl)⟩
      · refine wmh_exit ?_
        obtain rfl := (some_inj h).symm
        exact ⟨a14, rfl, (sub_of ⟨rfl, rfl, trivial⟩), (sub_cuts (is := [0, 0, 0, 0]) rfl)⟩
    · refine wh_sk rfl rfl ?_
      refine wh_sk rfl rfl ?_
      refine wh_sk rfl rfl ?_
      refine wh_sk rfl rfl ?_
      refine wh_sk rfl rfl ?_
      refine wh_q rfl rfl (q_pick_f rfl rfl) ?_
      refine wh_nil ?_
      refine wmh_cond_f rfl ?_
      refine wmh_exit ?_
      obtain rfl := (some_inj h).symm
      exact ⟨a14, rfl, (sub_of ⟨rfl, rfl, trivial⟩), (sub_cuts (is := [0, 0, 0, 0]) rfl)⟩
def p85 : CCode → CTag → Option Bool
| v1, v2 =>
if (decide (v2.kind = 1)) then
(if (decide (v2.fn = 0)) then
if (!decide (v2.name = (ByteArray.mk #[]))) then
(atS? v2.name 0) >>= fun v24 =>
if (decide (65 ≤ v24)) then
(atS? v2.name 0) >>= fun v25 =>
some (decide (v25 ≤ 90))
else
some false
else
some false
else
some false : Option Bool) >>= fun v21 =>
some v21
else
if (decide (v2.kind = 2)) then
(if (decide (v2.name = (ByteArray.mk #[]))) then
if (decide (v2.fn < (v1.funs.length : Int))) then
(at? v1.funs v2.fn) >>= fun v32 =>
some (decide (v32.params = v2.n))
else
some false
else
some false : Option Bool) >>= fun v30 =>
some v30
else
if (decide (v2.kind = 3)) then
(if (decide (v2.name = (ByteArray.mk #[]))) then
if (decide (v2.fn < (v1.funs.length : Int))) then
if (decide (0 < v2.n)) then
(at? v1.funs v2.fn) >>= fun v39 =>
some (decide (v2.n ≤ v39.params))
else
some false
else
some false
else
some false : Option Bool) >>= fun v37 =>
some v37
else
if (decide (v2.kind = 4)) then
(if (decide (v2.name = (ByteArray.mk #[]))) then
if (decide (v2.fn = 0)) then
some (decide (0 < v2.n))
else
some false
else
some false : Option Bool) >>= fun v40 =>
some v40
else
if (decide (v2.name = (ByteArray.mk #[]))) then
if (decide (v2.fn = 0)) then
some (decide (v2.n = 0))
else
some false
else
some false
theorem c85 [ErrC] {v1 : CCode} {v2 : CTag} {r : Bool} (h : p85 v1 v2 = some r) (τ : Store) : CMH Tryd.prog 85 [.ref (CCode.A v1) 0, .agg [iA v2.kind, sA v2.name, iA v2.fn, iA v2.n]] [.frm τ] (Ret1 (.sc (.bool r)) [] τ) := by
  rw [p85.eq_1] at h
  refine ch_enter Tryd.func85 rfl Tryd.ntmps85 rfl ?_
  refine wmh_seq ?_
  refine wmh_region ?_
  refine wh_l rfl rfl (oh_box (n := 4) rfl rfl rfl (fun k4 => ?_))
  refine wh_q rfl rfl (q_assign rfl) ?_
  refine wh_nil ?_
  refine wmh_seq ?_
  refine wmh_seq ?_
  refine wmh_region ?_
  refine wh_q rfl rfl (q_fieldAddr_own fl98_0 rfl) ?_
  refine wh_q rfl rfl (q_load_own ty3 rfl (i := 0) rfl rfl) ?_
  refine wh_nil ?_
  refine wmh_block ?_
  refine wmh_seq ?_
  refine wmh_region ?_
  refine wh_q rfl rfl (q_bin rfl rfl rfl) ?_
  refine wh_q rfl rfl (q_assign rfl) ?_
  refine wh_nil ?_
  refine wmh_ite rfl h (fun hc32 h => ?_) (fun hc32 h => ?_)
  · obtain ⟨jr53, hx, hj53⟩ := obind h
    refine wmh_join (ι := Bool) (fun i L H => match i with | v21 => jr53 = v21 ∧ Sub [(4, .sc (.bool v21))] L ∧ SubH [.frm τ] H) ?_ ?_
    · have h := hx
      refine wmh_region ?_
      refine wh_q rfl rfl (q_fieldAddr_own fl98_2 rfl) ?_
      refine wh_q rfl rfl (q_load_own ty3 rfl (i := 0) rfl rfl) ?_
      refine wh_q rfl rfl (q_bin rfl rfl rfl) ?_
      refine wh_q rfl rfl (q_move rfl) ?_
      refine wh_ite (t := 12) rfl h (fun hc59 h => ?_) (fun hc59 h => ?_)
      · refine wh_q rfl rfl (q_fieldAddr_own fl98_1 rfl) ?_
        refine wh_q rfl rfl (q_load_own ty9 rfl (i := 0) rfl rfl) ?_
        refine wh_q rfl rfl (q_bin rfl rfl rfl) ?_
        refine wh_q rfl rfl (q_pick_t rfl rfl) ?_
        refine wh_q rfl rfl (q_move rfl) ?_
        refine wh_ite (t := 17) rfl h (fun hc60 h => ?_) (fun hc60 h => ?_)
        · refine wh_q rfl rfl (q_fieldAddr_own fl98_1 rfl) ?_
          refine wh_q rfl rfl (q_load_own ty9 rfl (i := 0) rfl rfl) ?_
          obtain ⟨v24, hb61, h⟩ := obind h
          refine wh_q rfl rfl (q_index_str Tryd.underlying9 rfl rfl hb61) ?_
          refine wh_q rfl rfl (q_bin rfl rfl rfl) ?_
          refine wh_q rfl rfl (q_pick_t rfl rfl) ?_
          refine wh_q rfl rfl (q_move rfl) ?_
          refine wh_ite (t := 23) rfl h (fun hc62 h => ?_) (fun hc62 h => ?_)
          · refine wh_q rfl rfl (q_fieldAddr_own fl98_1 rfl) ?_
            refine wh_q rfl rfl (q_load_own ty9 rfl (i := 0) rfl rfl) ?_
            obtain ⟨v25, hb63, h⟩ := obind h
            refine wh_q rfl rfl (q_index_str Tryd.underlying9 rfl rfl hb63) ?_
            refine wh_q rfl rfl (q_bin rfl rfl rfl) ?_
            refine wh_q rfl rfl (q_pick_t rfl rfl) ?_
            refine wh_q rfl rfl (q_assign rfl) ?_
            refine wh_nil ?_
            obtain rfl := (some_inj h).symm
            exact ⟨(decide (v25 ≤ 90)), rfl, (sub_of ⟨rfl, trivial⟩), (sub_cuts (is := [1]) rfl)⟩
          · refine wh_sk rfl rfl ?_
            refine wh_sk rfl rfl ?_
            refine wh_sk rfl rfl ?_
            refine wh_sk rfl rfl ?_
            refine wh_q rfl rfl (q_pick_f rfl rfl) ?_
            refine wh_q rfl rfl (q_assign rfl) ?_
            refine wh_nil ?_
            obtain rfl := (some_inj h).symm
            exact ⟨false, rfl, (sub_of ⟨rfl, trivial⟩), (sub_cuts (is := [1]) rfl)⟩
        · refine wh_sk rfl rfl ?_
          refine wh_sk rfl rfl ?_
          refine wh_sk rfl rfl ?_
          refine wh_sk rfl rfl ?_
          refine wh_q rfl rfl (q_pick_f rfl rfl) ?_
          refine wh_q rfl rfl (q_move rfl) ?_
          refine wh_sk rfl rfl ?_
          refine wh_sk rfl rfl ?_
          refine wh_sk rfl rfl ?_
          refine wh_sk rfl rfl ?_
          refine wh_q rfl rfl (q_pick_f rfl rfl) ?_
          refine wh_q rfl rfl (q_assign rfl) ?_
          refine wh_nil ?_
          obtain rfl := (some_inj h).symm
          exact ⟨false, rfl, (sub_of ⟨rfl, trivial⟩), (sub_cuts (is := [1]) rfl)⟩
      · refine wh_sk rfl rfl ?_
        refine wh_sk rfl rfl ?_
        refine wh_sk rfl rfl ?_
        refine wh_q rfl rfl (q_pick_f rfl rfl) ?_
        refine wh_q rfl rfl (q_move rfl) ?_
        refine wh_sk rfl rfl ?_
        refine wh_sk rfl rfl ?_
        refine wh_sk rfl rfl ?_
        refine wh_sk rfl rfl ?_
        refine wh_q rfl rfl (q_pick_f rfl rfl) ?_
        refine wh_q rfl rfl (q_move rfl) ?_
        refine wh_sk rfl rfl ?_
        refine wh_sk rfl rfl ?_
        refine wh_sk rfl rfl ?_
        refine wh_sk rfl rfl ?_
        refine wh_q rfl rfl (q_pick_f rfl rfl) ?_
        refine wh_q rfl rfl (q_assign rfl) ?_
        refine wh_nil ?_
        obtain rfl := (some_inj h).symm
        exact ⟨false, rfl, (sub_of ⟨rfl, trivial⟩), (sub_cuts (is := [1]) rfl)⟩
    · rintro v21 L H hp
      obtain ⟨rfl, hs, hh⟩ := hp
      have h := hj53
      refine wmh_sub hs hh ?_
      refine wmh_ret ?_
      obtain rfl := (some_inj h).symm
      exact ⟨_, _, rh_one rfl rfl, sub_cuts (is := [0]) rfl, rfl, rfl⟩
  · refine wmh_seq ?_
    refine wmh_region ?_
    refine wh_q rfl rfl (q_bin rfl rfl rfl) ?_
    refine wh_q rfl rfl (q_assign rfl) ?_
    refine wh_nil ?_
    refine wmh_ite rfl h (fun hc64 h => ?_) (fun hc64 h => ?_)
    · obtain ⟨jr77, hx, hj77⟩ := obind h
      refine wmh_join (ι := Bool) (fun i L H => match i with | v30 => jr77 = v30 ∧ Sub [(4, .sc (.bool v30))] L ∧ SubH [.frm τ] H) ?_ ?_
      · have h := hx
        refine wmh_drawn _ [] [0, 1, 2, 3, 4, 5, 6, 7, 8, 9, 10, 11, 12, 13, 14, 15, 16, 17, 18, 19, 20, 21, 22, 23, 24, 25, 26, 27] mixed (by kernel_rfl) (sub_cuts (is := [0]) rfl) ?_
        refine vh_q rfl rfl rfl rfl (q_fieldAddr_own fl98_1 rfl) ?_
        refine vh_q rfl rfl rfl rfl (q_load_own ty9 rfl (i := 0) rfl rfl) ?_
        refine vh_q rfl rfl rfl rfl (q_bin rfl rfl rfl) ?_
        refine vh_q rfl rfl rfl rfl (q_move rfl) ?_
        refine vh_ite (t := 34) rfl h (fun hc81 h => ?_) (fun hc81 h => ?_)
        · refine vh_q rfl rfl rfl rfl (q_fieldAddr_own fl98_2 rfl) ?_
          refine vh_q rfl rfl rfl rfl (q_load_own ty3 rfl (i := 0) rfl rfl) ?_
          refine vh_q rfl rfl rfl rfl (q_move rfl) ?_
          refine vh_q rfl rfl rfl rfl (q_nilCheck_ref rfl) ?_
          refine vh_q rfl rfl rfl rfl (q_fieldAddr_ref fl96_1 rfl) ?_
          refine vh_q rfl rfl rfl rfl (q_load_ref ty93 rfl rfl rfl) ?_
          refine vh_q rfl rfl rfl rfl (q_len_slA Tryd.underlying93 rfl) ?_
          refine vh_q rfl rfl rfl rfl (q_bin rfl rfl rfl) ?_
          refine vh_q rfl rfl rfl rfl (q_pick_t rfl rfl) ?_
          refine vh_q rfl rfl rfl rfl (q_move rfl) ?_
          refine vh_ite (t := 44) rfl h (fun hc82 h => ?_) (fun hc82 h => ?_)
          · refine vh_q rfl rfl rfl rfl (q_move rfl) ?_
            refine vh_q rfl rfl rfl rfl (q_nilCheck_ref rfl) ?_
            refine vh_q rfl rfl rfl rfl (q_fieldAddr_ref fl96_1 rfl) ?_
            refine vh_q rfl rfl rfl rfl (q_load_ref ty93 rfl rfl rfl) ?_
            refine vh_q rfl rfl rfl rfl (q_fieldAddr_own fl98_2 rfl) ?_
            refine vh_q rfl rfl rfl rfl (q_load_own ty3 rfl (i := 0) rfl rfl) ?_
            obtain ⟨v32, hb83, h⟩ := obind h
            refine vh_q rfl rfl rfl rfl (q_index el93 rfl rfl hb83) ?_
            refine vh_q rfl rfl rfl rfl (q_fieldAddr_ref fl101_0 rfl) ?_
            refine vh_q rfl rfl rfl rfl (q_load_ref ty3 rfl rfl rfl) ?_
            refine vh_q rfl rfl rfl rfl (q_fieldAddr_own fl98_3 rfl) ?_
            refine vh_q rfl rfl rfl rfl (q_load_own ty3 rfl (i := 0) rfl rfl) ?_
            refine vh_q rfl rfl rfl rfl (q_bin rfl rfl rfl) ?_
            refine vh_q rfl rfl rfl rfl (q_pick_t rfl rfl) ?_
            refine vh_q rfl rfl rfl rfl (q_assign rfl) ?_
            refine vh_nil ?_
            obtain rfl := (some_inj h).symm
            exact ⟨(decide (v32.params = v2.n)), rfl, (sub_of ⟨rfl, trivial⟩), (sub_cuts (is := [1]) rfl)⟩
          · refine vh_sk (sub_cuts (is := [0]) rfl) rfl rfl rfl ?_
            refine vh_sk (sub_cuts (is := [0]) rfl) rfl rfl rfl ?_
            refine vh_sk (sub_cuts (is := [0]) rfl) rfl rfl rfl ?_
            refine vh_sk (sub_cuts (is := [0]) rfl) rfl rfl rfl ?_
            refine vh_sk (sub_cuts (is := [0]) rfl) rfl rfl rfl ?_
            refine vh_sk (sub_cuts (is := [0]) rfl) rfl rfl rfl ?_
            refine vh_sk (sub_cuts (is := [0]) rfl) rfl rfl rfl ?_
            refine vh_sk (sub_cuts (is := [0]) rfl) rfl rfl rfl ?_
            refine vh_sk (sub_cuts (is := [0]) rfl) rfl rfl rfl ?_
            refine vh_sk (sub_cuts (is := [0]) rfl) rfl rfl rfl ?_
            refine vh_sk (sub_cuts (is := [0]) rfl) rfl rfl rfl ?_
            refine vh_sk (sub_cuts (is := [0]) rfl) rfl rfl rfl ?_
            refine vh_q rfl rfl rfl rfl (q_pick_f rfl rfl) ?_
            refine vh_q rfl rfl rfl rfl (q_assign rfl) ?_
            refine vh_nil ?_
            obtain rfl := (some_inj h).symm
            exact ⟨false, rfl, (sub_of ⟨rfl, trivial⟩), (sub_cuts (is := [1]) rfl)⟩
        · refine vh_sk (sub_cuts (is := [0]) rfl) rfl rfl rfl ?_
          refine vh_sk (sub_cuts (is := [0]) rfl) rfl rfl rfl ?_
          refine vh_sk (sub_cuts (is := [0]) rfl) rfl rfl rfl ?_
          refine vh_sk (sub_cuts (is := [0]) rfl) rfl rfl rfl ?_
          refine vh_sk (sub_cuts (is := [0]) rfl) rfl rfl rfl ?_
          refine vh_sk (sub_cuts (is := [0]) rfl) rfl rfl rfl ?_
          refine vh_sk (sub_cuts (is := [0]) rfl) rfl rfl rfl ?_
          refine vh_sk (sub_cuts (is := [0]) rfl) rfl rfl rfl ?_
          refine vh_q rfl rfl rfl rfl (q_pick_f rfl rfl) ?_
          refine vh_q rfl rfl rfl rfl (q_move rfl) ?_
          refine vh_sk (sub_cuts (is := [0]) rfl) rfl rfl rfl ?_
          refine vh_sk (sub_cuts (is := [0]) rfl) rfl rfl rfl ?_
          refine vh_sk (sub_cuts (is := [0]) rfl) rfl rfl rfl ?_
          refine vh_sk (sub_cuts (is := [0]) rfl) rfl rfl rfl ?_
          refine vh_sk (sub_cuts (is := [0]) rfl) rfl rfl rfl ?_
          refine vh_sk (sub_cuts (is := [0]) rfl) rfl rfl rfl ?_
          refine vh_sk (sub_cuts (is := [0]) rfl) rfl rfl rfl ?_
          refine vh_sk (sub_cuts (is := [0]) rfl) rfl rfl rfl ?_
          refine vh_sk (sub_cuts (is := [0]) rfl) rfl rfl rfl ?_
          refine vh_sk (sub_cuts (is := [0]) rfl) rfl rfl rfl ?_
          refine vh_sk (sub_cuts (is := [0]) rfl) rfl rfl rfl ?_
          refine vh_sk (sub_cuts (is := [0]) rfl) rfl rfl rfl ?_
          refine vh_q rfl rfl rfl rfl (q_pick_f rfl rfl) ?_
          refine vh_q rfl rfl rfl rfl (q_assign rfl) ?_
          refine vh_nil ?_
          obtain rfl := (some_inj h).symm
          exact ⟨false, rfl, (sub_of ⟨rfl, trivial⟩), (sub_cuts (is := [1]) rfl)⟩
      · rintro v30 L H hp
        obtain ⟨rfl, hs, hh⟩ := hp
        have h := hj77
        refine wmh_sub hs hh ?_
        refine wmh_ret ?_
        obtain rfl := (some_inj h).symm
        exact ⟨_, _, rh_one rfl rfl, sub_cuts (is := [0]) rfl, rfl, rfl⟩
    · refine wmh_seq ?_
      refine wmh_region ?_
      refine wh_q rfl rfl (q_bin rfl rfl rfl) ?_
      refine wh_q rfl rfl (q_assign rfl) ?_
      refine wh_nil ?_
      refine wmh_ite rfl h (fun hc84 h => ?_) (fun hc84 h => ?_)
      · obtain ⟨jr101, hx, hj101⟩ := obind h
        refine wmh_join (ι := Bool) (fun i L H => match i with | v37 => jr101 = v37 ∧ Sub [(4, .sc (.bool v37))] L ∧ SubH [.frm τ] H) ?_ ?_
        · have h := hx
          refine wmh_drawn _ [] [0, 1, 2, 3, 4, 5, 6, 7, 8, 9, 10, 11, 12, 13, 14, 15, 16, 17, 18, 19, 20, 21, 22, 23, 24, 25, 26, 27, 28, 29, 30, 31, 32] mixed (by kernel_rfl) (sub_cuts (is := [0]) rfl) ?_
          refine vh_q rfl rfl rfl rfl (q_fieldAddr_own fl98_1 rfl) ?_
          refine vh_q rfl rfl rfl rfl (q_load_own ty9 rfl (i := 0) rfl rfl) ?_
          refine vh_q rfl rfl rfl rfl (q_bin rfl rfl rfl) ?_
          refine vh_q rfl rfl rfl rfl (q_move rfl) ?_
          refine vh_ite (t := 63) rfl h (fun hc106 h => ?_) (fun hc106 h => ?_)
          · refine vh_q rfl rfl rfl rfl (q_fieldAddr_own fl98_2 rfl) ?_
            refine vh_q rfl rfl rfl rfl (q_load_own ty3 rfl (i := 0) rfl rfl) ?_
            refine vh_q rfl rfl rfl rfl (q_move rfl) ?_
            refine vh_q rfl rfl rfl rfl (q_nilCheck_ref rfl) ?_
            refine vh_q rfl rfl rfl rfl (q_fieldAddr_ref fl96_1 rfl) ?_
            refine vh_q rfl rfl rfl rfl (q_load_ref ty93 rfl rfl rfl) ?_
            refine vh_q rfl rfl rfl rfl (q_len_slA Tryd.underlying93 rfl) ?_
            refine vh_q rfl rfl rfl rfl (q_bin rfl rfl rfl) ?_
            refine vh_q rfl rfl rfl rfl (q_pick_t rfl rfl) ?_
            refine vh_q rfl rfl rfl rfl (q_move rfl) ?_
            refine vh_ite (t := 73) rfl h (fun hc107 h => ?_) (fun hc107 h => ?_)
            · refine vh_q rfl rfl rfl rfl (q_fieldAddr_own fl98_3 rfl) ?_
              refine vh_q rfl rfl rfl rfl (q_load_own ty3 rfl (i := 0) rfl rfl) ?_
              refine vh_q rfl rfl rfl rfl (q_bin rfl rfl rfl) ?_
              refine vh_q rfl rfl rfl rfl (q_pick_t rfl rfl) ?_
              refine vh_q rfl rfl rfl rfl (q_move rfl) ?_
              refine vh_ite (t := 78) rfl h (fun hc108 h => ?_) (fun hc108 h => ?_)
              · refine vh_q rfl rfl rfl rfl (q_move rfl) ?_
                refine vh_q rfl rfl rfl rfl (q_nilCheck_ref rfl) ?_
                refine vh_q rfl rfl rfl rfl (q_fieldAddr_ref fl96_1 rfl) ?_
                refine vh_q rfl rfl rfl rfl (q_load_ref ty93 rfl rfl rfl) ?_
                refine vh_q rfl rfl rfl rfl (q_fieldAddr_own fl98_2 rfl) ?_
                refine vh_q rfl rfl rfl rfl (q_load_own ty3 rfl (i := 0) rfl rfl) ?_
                obtain ⟨v39, hb109, h⟩ := obind h
                refine vh_q rfl rfl rfl rfl (q_index el93 rfl rfl hb109) ?_
                refine vh_q rfl rfl rfl rfl (q_fieldAddr_ref fl101_0 rfl) ?_
                refine vh_q rfl rfl rfl rfl (q_load_ref ty3 rfl rfl rfl) ?_
                refine vh_q rfl rfl rfl rfl (q_fieldAddr_own fl98_3 rfl) ?_
                refine vh_q rfl rfl rfl rfl (q_load_own ty3 rfl (i := 0) rfl rfl) ?_
                refine vh_q rfl rfl rfl rfl (q_bin rfl rfl rfl) ?_
                refine vh_q rfl rfl rfl rfl (q_pick_t rfl rfl) ?_
                refine vh_q rfl rfl rfl rfl (q_assign rfl) ?_
                refine vh_nil ?_
                obtain rfl := (some_inj h).symm
                exact ⟨(decide (v2.n ≤ v39.params)), rfl, (sub_of ⟨rfl, trivial⟩), (sub_cuts (is := [1]) rfl)⟩
              · refine vh_sk (sub_cuts (is := [0]) rfl) rfl rfl rfl ?_
                refine vh_sk (sub_cuts (is := [0]) rfl) rfl rfl rfl ?_
                refine vh_sk (sub_cuts (is := [0]) rfl) rfl rfl rfl ?_
                refine vh_sk (sub_cuts (is := [0]) rfl) rfl rfl rfl ?_
                refine vh_sk (sub_cuts (is := [0]) rfl) rfl rfl rfl ?_
                refine vh_sk (sub_cuts (is := [0]) rfl) rfl rfl rfl ?_
                refine vh_sk (sub_cuts (is := [0]) rfl) rfl rfl rfl ?_
                refine vh_sk (sub_cuts (is := [0]) rfl) rfl rfl rfl ?_
                refine vh_sk (sub_cuts (is := [0]) rfl) rfl rfl rfl ?_
                refine vh_sk (sub_cuts (is := [0]) rfl) rfl rfl rfl ?_
                refine vh_sk (sub_cuts (is := [0]) rfl) rfl rfl rfl ?_
                refine vh_sk (sub_cuts (is := [0]) rfl) rfl rfl rfl ?_
                refine vh_q rfl rfl rfl rfl (q_pick_f rfl rfl) ?_
                refine vh_q rfl rfl rfl rfl (q_assign rfl) ?_
                refine vh_nil ?_
                obtain rfl := (some_inj h).symm
                exact ⟨false, rfl, (sub_of ⟨rfl, trivial⟩), (sub_cuts (is := [1]) rfl)⟩
            · refine vh_sk (sub_cuts (is := [0]) rfl) rfl rfl rfl ?_
              refine vh_sk (sub_cuts (is := [0]) rfl) rfl rfl rfl ?_
              refine vh_sk (sub_cuts (is := [0]) rfl) rfl rfl rfl ?_
              refine vh_q rfl rfl rfl rfl (q_pick_f rfl rfl) ?_
              refine vh_q rfl rfl rfl rfl (q_move rfl) ?_
              refine vh_sk (sub_cuts (is := [0]) rfl) rfl rfl rfl ?_
              refine vh_sk (sub_cuts (is := [0]) rfl) rfl rfl rfl ?_
              refine vh_sk (sub_cuts (is := [0]) rfl) rfl rfl rfl ?_
              refine vh_sk (sub_cuts (is := [0]) rfl) rfl rfl rfl ?_
              refine vh_sk (sub_cuts (is := [0]) rfl) rfl rfl rfl ?_
              refine vh_sk (sub_cuts (is := [0]) rfl) rfl rfl rfl ?_
              refine vh_sk (sub_cuts (is := [0]) rfl) rfl rfl rfl ?_
              refine vh_sk (sub_cuts (is := [0]) rfl) rfl rfl rfl ?_
              refine vh_sk (sub_cuts (is := [0]) rfl) rfl rfl rfl ?_
              refine vh_sk (sub_cuts (is := [0]) rfl) rfl rfl rfl ?_
              refine vh_sk (sub_cuts (is := [0]) rfl) rfl rfl rfl ?_
              refine vh_sk (sub_cuts (is := [0]) rfl) rfl rfl rfl ?_
              refine vh_q rfl rfl rfl rfl (q_pick_f rfl rfl) ?_
              refine vh_q rfl rfl rfl rfl (q_assign rfl) ?_
              refine vh_nil ?_
              obtain rfl := (some_inj h).symm
              exact ⟨false, rfl, (sub_of ⟨rfl, trivial⟩), (sub_cuts (is := [1]) rfl)⟩
          · refine vh_sk (sub_cuts (is := [0]) rfl) rfl rfl rfl ?_
            refine vh_sk (sub_cuts (is := [0]) rfl) rfl rfl rfl ?_
            refine vh_sk (sub_cuts (is := [0]) rfl) rfl rfl rfl ?_
            refine vh_sk (sub_cuts (is := [0]) rfl) rfl rfl rfl ?_
            refine vh_sk (sub_cuts (is := [0]) rfl) rfl rfl rfl ?_
            refine vh_sk (sub_cuts (is := [0]) rfl) rfl rfl rfl ?_
            refine vh_sk (sub_cuts (is := [0]) rfl) rfl rfl rfl ?_
            refine vh_sk (sub_cuts (is := [0]) rfl) rfl rfl rfl ?_
            refine vh_q rfl rfl rfl rfl (q_pick_f rfl rfl) ?_
            refine vh_q rfl rfl rfl rfl (q_move rfl) ?_
            refine vh_sk (sub_cuts (is := [0]) rfl) rfl rfl rfl ?_
            refine vh_sk (sub_cuts (is := [0]) rfl) rfl rfl rfl ?_
            refine vh_sk (sub_cuts (is := [0]) rfl) rfl rfl rfl ?_
            refine vh_q rfl rfl rfl rfl (q_pick_f rfl rfl) ?_
            refine vh_q rfl rfl rfl rfl (q_move rfl) ?_
            refine vh_sk (sub_cuts (is := [0]) rfl) rfl rfl rfl ?_
            refine vh_sk (sub_cuts (is := [0]) rfl) rfl rfl rfl ?_
            refine vh_sk (sub_cuts (is := [0]) rfl) rfl rfl rfl ?_
            refine vh_sk (sub_cuts (is := [0]) rfl) rfl rfl rfl ?_
            refine vh_sk (sub_cuts (is := [0]) rfl) rfl rfl rfl ?_
            refine vh_sk (sub_cuts (is := [0]) rfl) rfl rfl rfl ?_
            refine vh_sk (sub_cuts (is := [0]) rfl) rfl rfl rfl ?_
            refine vh_sk (sub_cuts (is := [0]) rfl) rfl rfl rfl ?_
            refine vh_sk (sub_cuts (is := [0]) rfl) rfl rfl rfl ?_
            refine vh_sk (sub_cuts (is := [0]) rfl) rfl rfl rfl ?_
            refine vh_sk (sub_cuts (is := [0]) rfl) rfl rfl rfl ?_
            refine vh_sk (sub_cuts (is := [0]) rfl) rfl rfl rfl ?_
            refine vh_q rfl rfl rfl rfl (q_pick_f rfl rfl) ?_
            refine vh_q rfl rfl rfl rfl (q_assign rfl) ?_
            refine vh_nil ?_
            obtain rfl := (some_inj h).symm
            exact ⟨false, rfl, (sub_of ⟨rfl, trivial⟩), (sub_cuts (is := [1]) rfl)⟩
        · rintro v37 L H hp
          obtain ⟨rfl, hs, hh⟩ := hp
          have h := hj101
          refine wmh_sub hs hh ?_
          refine wmh_ret ?_
          obtain rfl := (some_inj h).symm
          exact ⟨_, _, rh_one rfl rfl, sub_cuts (is := [0]) rfl, rfl, rfl⟩
      · refine wmh_seq ?_
        refine wmh_region ?_
        refine wh_q rfl rfl (q_bin rfl rfl rfl) ?_
        refine wh_q rfl rfl (q_assign rfl) ?_
        refine wh_nil ?_
        refine wmh_ite rfl h (fun hc110 h => ?_) (fun hc110 h => ?_)
        · obtain ⟨jr119, hx, hj119⟩ := obind h
          refine wmh_join (ι := Bool) (fun i L H => match i with | v40 => jr119 = v40 ∧ Sub [(4, .sc (.bool v40))] L ∧ SubH [.frm τ] H) ?_ ?_
          · have h := hx
            refine wmh_region ?_
            refine wh_q rfl rfl (q_fieldAddr_own fl98_1 rfl) ?_
            refine wh_q rfl rfl (q_load_own ty9 rfl (i := 0) rfl rfl) ?_
            refine wh_q rfl rfl (q_bin rfl rfl rfl) ?_
            refine wh_q rfl rfl (q_move rfl) ?_
            refine wh_ite (t := 97) rfl h (fun hc122 h => ?_) (fun hc122 h => ?_)
            · refine wh_q rfl rfl (q_fieldAddr_own fl98_2 rfl) ?_
              refine wh_q rfl rfl (q_load_own ty3 rfl (i := 0) rfl rfl) ?_
              refine wh_q rfl rfl (q_bin rfl rfl rfl) ?_
              refine wh_q rfl rfl (q_pick_t rfl rfl) ?_
              refine wh_q rfl rfl (q_move rfl) ?_
              refine wh_ite (t := 102) rfl h (fun hc123 h => ?_) (fun hc123 h => ?_)
              · refine wh_q rfl rfl (q_fieldAddr_own fl98_3 rfl) ?_
                refine wh_q rfl rfl (q_load_own ty3 rfl (i := 0) rfl rfl) ?_
                refine wh_q rfl rfl (q_bin rfl rfl rfl) ?_
                refine wh_q rfl rfl (q_pick_t rfl rfl) ?_
                refine wh_q rfl rfl (q_assign rfl) ?_
                refine wh_nil ?_
                obtain rfl := (some_inj h).symm
                exact ⟨(decide (0 < v2.n)), rfl, (sub_of ⟨rfl, trivial⟩), (sub_cuts (is := [1]) rfl)⟩
              · refine wh_sk rfl rfl ?_
                refine wh_sk rfl rfl ?_
                refine wh_sk rfl rfl ?_
                refine wh_q rfl rfl (q_pick_f rfl rfl) ?_
                refine wh_q rfl rfl (q_assign rfl) ?_
                refine wh_nil ?_
                obtain rfl := (some_inj h).symm
                exact ⟨false, rfl, (sub_of ⟨rfl, trivial⟩), (sub_cuts (is := [1]) rfl)⟩
            · refine wh_sk rfl rfl ?_
              refine wh_sk rfl rfl ?_
              refine wh_sk rfl rfl ?_
              refine wh_q rfl rfl (q_pick_f rfl rfl) ?_
              refine wh_q rfl rfl (q_move rfl) ?_
              refine wh_sk rfl rfl ?_
              refine wh_sk rfl rfl ?_
              refine wh_sk rfl rfl ?_
              refine wh_q rfl rfl (q_pick_f rfl rfl) ?_
              refine wh_q rfl rfl (q_assign rfl) ?_
              refine wh_nil ?_
              obtain rfl := (some_inj h).symm
              exact ⟨false, rfl, (sub_of ⟨rfl, trivial⟩), (sub_cuts (is := [1]) rfl)⟩
          · rintro v40 L H hp
            obtain ⟨rfl, hs, hh⟩ := hp
            have h := hj119
            refine wmh_sub hs hh ?_
            refine wmh_ret ?_
            obtain rfl := (some_inj h).symm
            exact ⟨_, _, rh_one rfl rfl, sub_cuts (is := [0]) rfl, rfl, rfl⟩
        · refine wmh_skip ?_
          refine wmh_seq ?_
          refine wmh_region ?_
          refine wh_q rfl rfl (q_fieldAddr_own fl98_1 rfl) ?_
          refine wh_q rfl rfl (q_load_own ty9 rfl (i := 0) rfl rfl) ?_
          refine wh_q rfl rfl (q_bin rfl rfl rfl) ?_
          refine wh_q rfl rfl (q_move rfl) ?_
          refine wh_ite (t := 110) rfl h (fun hc126 h => ?_) (fun hc126 h => ?_)
          · refine wh_q rfl rfl (q_fieldAddr_own fl98_2 rfl) ?_
            refine wh_q rfl rfl (q_load_own ty3 rfl (i := 0) rfl rfl) ?_
            refine wh_q rfl rfl (q_bin rfl rfl rfl) ?_
            refine wh_q rfl rfl (q_pick_t rfl rfl) ?_
            refine wh_q rfl rfl (q_move rfl) ?_
            refine wh_ite (t := 115) rfl h (fun hc127 h => ?_) (fun hc127 h => ?_)
            · refine wh_q rfl rfl (q_fieldAddr_own fl98_3 rfl) ?_
              refine wh_q rfl rfl (q_load_own ty3 rfl (i := 0) rfl rfl) ?_
              refine wh_q rfl rfl (q_bin rfl rfl rfl) ?_
              refine wh_q rfl rfl (q_pick_t rfl rfl) ?_
              refine wh_q rfl rfl (q_assign rfl) ?_
              refine wh_nil ?_
              refine wmh_ret ?_
              obtain rfl := (some_inj h).symm
              exact ⟨_, _, rh_one rfl rfl, sub_cuts (is := [1]) rfl, rfl, rfl⟩
            · refine wh_sk rfl rfl ?_
              refine wh_sk rfl rfl ?_
              refine wh_sk rfl rfl ?_
              refine wh_q rfl rfl (q_pick_f rfl rfl) ?_
              refine wh_q rfl rfl (q_assign rfl) ?_
              refine wh_nil ?_
              refine wmh_ret ?_
              obtain rfl := (some_inj h).symm
              exact ⟨_, _, rh_one rfl rfl, sub_cuts (is := [1]) rfl, rfl, rfl⟩
          · refine wh_sk rfl rfl ?_
            refine wh_sk rfl rfl ?_
            refine wh_sk rfl rfl ?_
            refine wh_q rfl rfl (q_pick_f rfl rfl) ?_
            refine wh_q rfl rfl (q_move rfl) ?_
            refine wh_sk rfl rfl ?_
            refine wh_sk rfl rfl ?_
            refine wh_sk rfl rfl ?_
            refine wh_q rfl rfl (q_pick_f rfl rfl) ?_
            refine wh_q rfl rfl (q_assign rfl) ?_
            refine wh_nil ?_
            refine wmh_ret ?_
            obtain rfl := (some_inj h).symm
            exact ⟨_, _, rh_one rfl rfl, sub_cuts (is := [1]) rfl, rfl, rfl⟩
def p86 : Int → Option Bool
| v1 =>
if (decide (v1 = 9)) then
some true
else
if (decide (v1 = 10)) then
some true
else
some (decide (v1 = 11))
theorem c86 [ErrC] {v1 : Int} {r : Bool} (h : p86 v1 = some r) (τ : Store) : CMH Tryd.prog 86 [iA v1] [.frm τ] (Ret1 (.sc (.bool r)) [] τ) := by
  rw [p86.eq_1] at h
  refine ch_enter Tryd.func86 rfl Tryd.ntmps86 rfl ?_
  refine wmh_seq ?_
  refine wmh_region ?_
  refine wh_q rfl rfl (q_assign rfl) ?_
  refine wh_nil ?_
  refine wmh_seq ?_
  refine wmh_region ?_
  refine wh_q rfl rfl (q_move rfl) ?_
  refine wh_q rfl rfl (q_bin rfl rfl rfl) ?_
  refine wh_q rfl rfl (q_move rfl) ?_
  refine wh_ite (t := 5) rfl h (fun hc2 h => ?_) (fun hc2 h => ?_)
  · refine wh_sk rfl rfl ?_
    refine wh_sk rfl rfl ?_
    refine wh_q rfl rfl (q_pick_t rfl rfl) ?_
    refine wh_q rfl rfl (q_move rfl) ?_
    refine wh_sk rfl rfl ?_
    refine wh_sk rfl rfl ?_
    refine wh_q rfl rfl (q_pick_t rfl rfl) ?_
    refine wh_q rfl rfl (q_assign rfl) ?_
    refine wh_nil ?_
    refine wmh_ret ?_
    obtain rfl := (some_inj h).symm
    exact ⟨_, _, rh_one rfl rfl, sub_cuts (is := [0]) rfl, rfl, rfl⟩
  · refine wh_q rfl rfl (q_move rfl) ?_
    refine wh_q rfl rfl (q_bin rfl rfl rfl) ?_
    refine wh_q rfl rfl (q_pick_f rfl rfl) ?_
    refine wh_q rfl rfl (q_move rfl) ?_
    refine wh_ite (t := 9) rfl h (fun hc3 h => ?_) (fun hc3 h => ?_)
    · refine wh_sk rfl rfl ?_
      refine wh_sk rfl rfl ?_
      refine wh_q rfl rfl (q_pick_t rfl rfl) ?_
      refine wh_q rfl rfl (q_assign rfl) ?_
      refine wh_nil ?_
      refine wmh_ret ?_
      obtain rfl := (some_inj h).symm
      exact ⟨_, _, rh_one rfl rfl, sub_cuts (is := [0]) rfl, rfl, rfl⟩
    · refine wh_q rfl rfl (q_move rfl) ?_
      refine wh_q rfl rfl (q_bin rfl rfl rfl) ?_
      refine wh_q rfl rfl (q_pick_f rfl rfl) ?_
      refine wh_q rfl rfl (q_assign rfl) ?_
      refine wh_nil ?_
      refine wmh_ret ?_
      obtain rfl := (some_inj h).symm
      exact ⟨_, _, rh_one rfl rfl, sub_cuts (is := [0]) rfl, rfl, rfl⟩
def p150 : CCode → CTag → Option Int
| v1, v2 =>
if (decide (v2.kind = 3)) then
(at? v1.funs v2.fn) >>= fun v6 =>
some (i64 (v6.params - v2.n))
else
if (decide (v2.kind = 4)) then
some (i64 (v2.n + 1))
else
if (decide (v2.kind = 5)) then
if (decide (v2.kind = 5)) then
some 1
else
some v2.n
else
if (decide (v2.kind = 6)) then
some 1
else
some v2.n
theorem c150 [ErrC] {v1 : CCode} {v2 : CTag} {r : Int} (h : p150 v1 v2 = some r) (τ : Store) : CMH Tryd.prog 150 [.ref (CCode.A v1) 0, .agg [iA v2.kind, sA v2.name, iA v2.fn, iA v2.n]] [.frm τ] (Ret1 (iA r) [] τ) := by
  rw [p150.eq_1] at h
  refine ch_enter Tryd.func150 rfl Tryd.ntmps150 rfl ?_
  refine wmh_seq ?_
  refine wmh_region ?_
  refine wh_l rfl rfl (oh_box (n := 4) rfl rfl rfl (fun k4 => ?_))
  refine wh_q rfl rfl (q_assign rfl) ?_
  refine wh_nil ?_
  refine wmh_seq ?_
  refine wmh_seq ?_
  refine wmh_region ?_
  refine wh_q rfl rfl (q_fieldAddr_own fl98_0 rfl) ?_
  refine wh_q rfl rfl (q_load_own ty3 rfl (i := 0) rfl rfl) ?_
  refine wh_nil ?_
  refine wmh_block ?_
  refine wmh_seq ?_
  refine wmh_region ?_
  refine wh_q rfl rfl (q_bin rfl rfl rfl) ?_
  refine wh_q rfl rfl (q_assign rfl) ?_
  refine wh_nil ?_
  refine wmh_ite rfl h (fun hc0 h => ?_) (fun hc0 h => ?_)
  · refine wmh_seq ?_
    refine wmh_drawn _ [] [0, 1, 2, 3, 4, 5, 6, 7, 8, 9, 10, 11, 12] mixed (by kernel_rfl) (sub_cuts (is := [0]) rfl) ?_
    refine vh_q rfl rfl rfl rfl (q_move rfl) ?_
    refine vh_q rfl rfl rfl rfl (q_nilCheck_ref rfl) ?_
    refine vh_q rfl rfl rfl rfl (q_fieldAddr_ref fl96_1 rfl) ?_
    refine vh_q rfl rfl rfl rfl (q_load_ref ty93 rfl rfl rfl) ?_
    refine vh_q rfl rfl rfl rfl (q_fieldAddr_own fl98_2 rfl) ?_
    refine vh_q rfl rfl rfl rfl (q_load_own ty3 rfl (i := 0) rfl rfl) ?_
    obtain ⟨v6, hb2, h⟩ := obind h
    refine vh_q rfl rfl rfl rfl (q_index el93 rfl rfl hb2) ?_
    refine vh_q rfl rfl rfl rfl (q_fieldAddr_ref fl101_0 rfl) ?_
    refine vh_q rfl rfl rfl rfl (q_load_ref ty3 rfl rfl rfl) ?_
    refine vh_q rfl rfl rfl rfl (q_fieldAddr_own fl98_3 rfl) ?_
    refine vh_q rfl rfl rfl rfl (q_load_own ty3 rfl (i := 0) rfl rfl) ?_
    refine vh_q rfl rfl rfl rfl (q_bin rfl rfl rfl) ?_
    refine vh_q rfl rfl rfl rfl (q_assign rfl) ?_
    refine vh_nil ?_
    refine wmh_ret ?_
    obtain rfl := (some_inj h).symm
    exact ⟨_, _, rh_one rfl rfl, sub_cuts (is := [1]) rfl, rfl, rfl⟩
  · refine wmh_seq ?_
    refine wmh_region ?_
    refine wh_q rfl rfl (q_bin rfl rfl rfl) ?_
    refine wh_q rfl rfl (q_assign rfl) ?_
    refine wh_nil ?_
    refine wmh_ite rfl h (fun hc3 h => ?_) (fun hc3 h => ?_)
    · refine wmh_seq ?_
      refine wmh_region ?_
      refine wh_q rfl rfl (q_fieldAddr_own fl98_3 rfl) ?_
      refine wh_q rfl rfl (q_load_own ty3 rfl (i := 0) rfl rfl) ?_
      refine wh_q rfl rfl (q_bin rfl rfl rfl) ?_
      refine wh_q rfl rfl (q_assign rfl) ?_
      refine wh_nil ?_
      refine wmh_ret ?_
      obtain rfl := (some_inj h).symm
      exact ⟨_, _, rh_one rfl rfl, sub_cuts (is := [1]) rfl, rfl, rfl⟩
    · refine wmh_seq ?_
      refine wmh_seq ?_
      refine wmh_region ?_
      refine wh_q rfl rfl (q_bin rfl rfl rfl) ?_
      refine wh_q rfl rfl (q_assign rfl) ?_
      refine wh_nil ?_
      refine wmh_ite rfl h (fun hc4 h => ?_) (fun hc4 h => ?_)
      · refine wmh_skip ?_
        refine wmh_ite rfl h (fun hc5 h => ?_) (fun hc5 h => ?_)
        · refine wmh_seq ?_
          refine wmh_region ?_
          refine wh_q rfl rfl (q_assign rfl) ?_
          refine wh_nil ?_
          refine wmh_ret ?_
          obtain rfl := (some_inj h).symm
          exact ⟨_, _, rh_one rfl rfl, sub_cuts (is := [1]) rfl, rfl, rfl⟩
        · refine wmh_skip ?_
          refine wmh_seq ?_
          refine wmh_region ?_
          refine wh_q rfl rfl (q_fieldAddr_own fl98_3 rfl) ?_
          refine wh_q rfl rfl (q_load_own ty3 rfl (i := 0) rfl rfl) ?_
          refine wh_q rfl rfl (q_assign rfl) ?_
          refine wh_nil ?_
          refine wmh_ret ?_
          obtain rfl := (some_inj h).symm
          exact ⟨_, _, rh_one rfl rfl, sub_cuts (is := [1]) rfl, rfl, rfl⟩
      · refine wmh_region ?_
        refine wh_q rfl rfl (q_bin rfl rfl rfl) ?_
        refine wh_q rfl rfl (q_assign rfl) ?_
        refine wh_nil ?_
        refine wmh_ite rfl h (fun hc6 h => ?_) (fun hc6 h => ?_)
        · refine wmh_seq ?_
          refine wmh_region ?_
          refine wh_q rfl rfl (q_assign rfl) ?_
          refine wh_nil ?_
          refine wmh_ret ?_
          obtain rfl := (some_inj h).symm
          exact ⟨_, _, rh_one rfl rfl, sub_cuts (is := [1]) rfl, rfl, rfl⟩
        · refine wmh_skip ?_
          refine wmh_seq ?_
          refine wmh_region ?_
          refine wh_q rfl rfl (q_fieldAddr_own fl98_3 rfl) ?_
          refine wh_q rfl rfl (q_load_own ty3 rfl (i := 0) rfl rfl) ?_
          refine wh_q rfl rfl (q_assign rfl) ?_
          refine wh_nil ?_
          refine wmh_ret ?_
          obtain rfl := (some_inj h).symm
          exact ⟨_, _, rh_one rfl rfl, sub_cuts (is := [1]) rfl, rfl, rfl⟩
def l195_1 (v2 : ByteArray) : List ByteArray → Int → Option (LR Unit Int)
| [], v3 =>
some (.go ())
| v5 :: l, v3 =>
if (decide (v2 = v5)) then
some (.ret v3)
else
l195_1 v2 l (v3 + 1)
def p195 : (List ByteArray) → ByteArray → Option Int
| v1, v2 =>
(l195_1 v2 v1 0) >>= fun rr3 =>
(match rr3 with
| .go _ =>
some (-1)
| .ret rv =>
some rv)
theorem c195 [ErrC] {v1 : List ByteArray} {v2 : ByteArray} {r : Int} (h : p195 v1 v2 = some r) (τ : Store) : CMH Tryd.prog 195 [slA 1 sA v1, sA v2] [.frm τ] (Ret1 (iA r) [] τ) := by
  rw [p195.eq_1] at h
  refine ch_enter Tryd.func195 rfl Tryd.ntmps195 rfl ?_
  refine wmh_seq ?_
  refine wmh_region ?_
  refine wh_q rfl rfl (q_assign rfl) ?_
  refine wh_nil ?_
  refine wmh_seq ?_
  refine wmh_seq ?_
  refine wmh_region ?_
  refine wh_q rfl rfl (q_move rfl) ?_
  refine wh_q rfl rfl (q_len_slA Tryd.underlying42 rfl) ?_
  refine wh_q rfl rfl (q_move rfl) ?_
  refine wh_nil ?_
  obtain ⟨rr3, hr3, h⟩ := obind h
  refine wmh_block ?_
  refine wmh_loopL (fun l s L H => match s with | v3 => ∃ (j : Nat) , v3 = (j : Int) ∧ v1.drop j = l ∧ Sub [(0, slA 1 sA v1), (1, sA v2), (7, iA (v1.length : Int)), (8, iA v3)] L ∧ SubH [.frm τ] H) (fun r e L H => match r with | .go _ =>  e = .exit 0 ∧ Sub [] L ∧ SubH [.frm τ] H | .ret rv => e = .ret ∧ RetRel Tryd.prog Tryd.f195 19 (Ret1 (iA rv) [] τ) L H) hr3 ⟨0, rfl, rfl, (sub_of ⟨rfl, rfl, rfl, rfl, trivial⟩), (sub_cuts (is := [0]) rfl)⟩ ?_ ?_
  · intro e L H hp
    obtain _ | rv := rr3
    · obtain ⟨rfl, hs, hh⟩ := hp
      refine wmh_sub hs hh ?_
      refine wmh_seq ?_
      refine wmh_region ?_
      refine wh_q rfl rfl (q_assign rfl) ?_
      refine wh_nil ?_
      refine wmh_ret ?_
      obtain rfl := (some_inj h).symm
      exact ⟨_, _, rh_one rfl rfl, sub_cuts (is := [0]) rfl, rfl, rfl⟩
    · obtain ⟨rfl, hp⟩ := hp
      obtain rfl := (some_inj h).symm
      exact hp
  · rintro l v3 r h L H hp
    obtain ⟨j, hi, hd, hs, hh⟩ := hp
    refine wmh_sub hs hh ?_
    refine wmh_len (s := 0) rfl (fun hl => ?_)
    obtain _ | ⟨v5, l⟩ := l
    · have hj := drop_end hd
      rw [l195_1.eq_1] at h
      refine wmh_seq ?_
      refine wmh_region ?_
      refine wh_q rfl rfl (q_bin rfl rfl rfl) ?_
      refine wh_nil ?_
      refine wmh_seq ?_
      refine wmh_cond rfl (fun hc => ?_) (fun hc => ?_)
      · exfalso; have := of_decide_eq_true hc; omega
      · refine wmh_exit ?_
        obtain rfl := (some_inj h).symm
        exact ⟨rfl, (sub_of trivial), (sub_cuts (is := [0]) rfl)⟩
    · obtain ⟨hat, hj, hd⟩ := at_drop hd
      rw [← hi] at hat
      rw [l195_1.eq_2] at h
      refine wmh_seq ?_
      refine wmh_region ?_
      refine wh_q rfl rfl (q_bin rfl rfl rfl) ?_
      refine wh_nil ?_
      refine wmh_seq ?_
      refine wmh_cond rfl (fun hc => ?_) (fun hc => ?_)
      · refine wmh_skip ?_
        refine wmh_seq ?_
        refine wmh_block ?_
        refine wmh_seq ?_
        refine wmh_region ?_
        refine wh_q rfl rfl (q_move rfl) ?_
        refine wh_q rfl rfl (q_assign rfl) ?_
        refine wh_nil ?_
        refine wmh_seq ?_
        refine wmh_region ?_
        refine wh_q rfl rfl (q_move rfl) ?_
        refine wh_q rfl rfl (q_move rfl) ?_
        refine wh_q rfl rfl (q_move rfl) ?_
        refine wh_q rfl rfl (q_index el42 rfl rfl hat) ?_
        refine wh_q rfl rfl (q_load_ref ty9 rfl rfl rfl) ?_
        refine wh_q rfl rfl (q_bin rfl rfl rfl) ?_
        refine wh_nil ?_
        refine wmh_ite rfl h (fun hc4 h => ?_) (fun hc4 h => ?_)
        · refine wmh_seq ?_
          refine wmh_region ?_
          refine wh_q rfl rfl (q_move rfl) ?_
          refine wh_q rfl rfl (q_assign rfl) ?_
          refine wh_nil ?_
          refine wmh_ret ?_
          obtain rfl := (some_inj h).symm
          exact ⟨rfl, _, _, rh_one rfl rfl, sub_cuts (is := [0]) rfl, rfl, rfl⟩
        · refine wmh_skip ?_
          refine wmh_region ?_
          refine wh_q rfl rfl (q_add1 rfl rfl (by omega)) ?_
          refine wh_q rfl rfl (q_move rfl) ?_
          refine wh_nil ?_
          exact ⟨_, _, (v3 + 1), rfl, h, j + 1, (by omega), hd, (sub_of ⟨rfl, rfl, rfl, rfl, trivial⟩), (sub_cuts (is := [0]) rfl)⟩
      · exfalso; have := of_decide_eq_false hc; omega
def p171 : (List ByteArray) → ByteArray → Option Bool
| v1, v2 =>
(p195 v1 v2) >>= fun v4 =>
some (decide (0 ≤ v4))
theorem c171 [ErrC] {v1 : List ByteArray} {v2 : ByteArray} {r : Bool} (h : p171 v1 v2 = some r) (τ : Store) : CMH Tryd.prog 171 [slA 1 sA v1, sA v2] [.frm τ] (Ret1 (.sc (.bool r)) [] τ) := by
  rw [p171.eq_1] at h
  refine ch_enter Tryd.func171 rfl Tryd.ntmps171 rfl ?_
  refine wmh_seq ?_
  refine wmh_region ?_
  refine wh_q rfl rfl (q_assign rfl) ?_
  refine wh_nil ?_
  refine wmh_seq ?_
  refine wmh_region ?_
  refine wh_q rfl rfl (q_move rfl) ?_
  refine wh_q rfl rfl (q_move rfl) ?_
  obtain ⟨v4, hb1, h⟩ := obind h
  refine wh_l rfl rfl (oh_call1 [] fn195 rfl rfl (fun τ hτ => c195 hb1 τ) ?_)
  refine wh_q rfl rfl (q_bin rfl rfl rfl) ?_
  refine wh_q rfl rfl (q_assign rfl) ?_
  refine wh_nil ?_
  refine wmh_ret ?_
  obtain rfl := (some_inj h).symm
  exact ⟨_, _, rh_one rfl rfl, sub_cuts (is := [0]) rfl, rfl, rfl⟩
def p151 : ByteArray → Option Int
| v1 =>
if (decide (v1 = (ByteArray.mk #[102, 108, 111, 97, 116]))) then
some 1
else
if (decide (v1 = (ByteArray.mk #[119, 104, 111, 108, 101]))) then
some 1
else
(p171 ([(ByteArray.mk #[43]), (ByteArray.mk #[45]), (ByteArray.mk #[42]), (ByteArray.mk #[100, 105, 118]), (ByteArray.mk #[109, 111, 100]), (ByteArray.mk #[60]), (ByteArray.mk #[61]), (ByteArray.mk #[102, 43]), (ByteArray.mk #[102, 45]), (ByteArray.mk #[102, 42]), (ByteArray.mk #[102, 47]), (ByteArray.mk #[102, 60]), (ByteArray.mk #[102, 61])]) v1) >>= fun v3 =>
if v3 then
some 2
else
some 0
theorem c151 [ErrC] {v1 : ByteArray} {r : Int} (h : p151 v1 = some r) (τ : Store) : CMH Tryd.prog 151 [sA v1] [.frm τ] (Ret1 (iA r) [] τ) := by
  rw [p151.eq_1] at h
  refine ch_enter Tryd.func151 rfl Tryd.ntmps151 rfl ?_
  refine wmh_seq ?_
  refine wmh_region ?_
  refine wh_q rfl rfl (q_assign rfl) ?_
  refine wh_nil ?_
  refine wmh_seq ?_
  refine wmh_seq ?_
  refine wmh_region ?_
  refine wh_q rfl rfl (q_move rfl) ?_
  refine wh_q rfl rfl (q_bin rfl rfl rfl) ?_
  refine wh_q rfl rfl (q_move rfl) ?_
  refine wh_ite (t := 5) rfl h (fun hc1 h => ?_) (fun hc1 h => ?_)
  · refine wh_sk rfl rfl ?_
    refine wh_sk rfl rfl ?_
    refine wh_q rfl rfl (q_pick_t rfl rfl) ?_
    refine wh_nil ?_
    refine wmh_cond_t rfl ?_
    refine wmh_seq ?_
    refine wmh_region ?_
    refine wh_q rfl rfl (q_assign rfl) ?_
    refine wh_nil ?_
    refine wmh_ret ?_
    obtain rfl := (some_inj h).symm
    exact ⟨_, _, rh_one rfl rfl, sub_cuts (is := [0]) rfl, rfl, rfl⟩
  · refine wh_q rfl rfl (q_move rfl) ?_
    refine wh_q rfl rfl (q_bin rfl rfl rfl) ?_
    refine wh_q rfl rfl (q_pick_f rfl rfl) ?_
    refine wh_nil ?_
    refine wmh_ite rfl h (fun hc2 h => ?_) (fun hc2 h => ?_)
    · refine wmh_seq ?_
      refine wmh_region ?_
      refine wh_q rfl rfl (q_assign rfl) ?_
      refine wh_nil ?_
      refine wmh_ret ?_
      obtain rfl := (some_inj h).symm
      exact ⟨_, _, rh_one rfl rfl, sub_cuts (is := [0]) rfl, rfl, rfl⟩
    · refine wmh_skip ?_
      refine wmh_seq ?_
      refine wmh_seq ?_
      refine wmh_region ?_
      refine wh_q rfl rfl (q_slice_immL [sA (ByteArray.mk #[43]), sA (ByteArray.mk #[45]), sA (ByteArray.mk #[42]), sA (ByteArray.mk #[100, 105, 118]), sA (ByteArray.mk #[109, 111, 100]), sA (ByteArray.mk #[60]), sA (ByteArray.mk #[61]), sA (ByteArray.mk #[102, 43]), sA (ByteArray.mk #[102, 45]), sA (ByteArray.mk #[102, 42]), sA (ByteArray.mk #[102, 47]), sA (ByteArray.mk #[102, 60]), sA (ByteArray.mk #[102, 61])] [sA (ByteArray.mk #[43]), sA (ByteArray.mk #[45]), sA (ByteArray.mk #[42]), sA (ByteArray.mk #[100, 105, 118]), sA (ByteArray.mk #[109, 111, 100]), sA (ByteArray.mk #[60]), sA (ByteArray.mk #[61]), sA (ByteArray.mk #[102, 43]), sA (ByteArray.mk #[102, 45]), sA (ByteArray.mk #[102, 42]), sA (ByteArray.mk #[102, 47]), sA (ByteArray.mk #[102, 60]), sA (ByteArray.mk #[102, 61])] el42 zel42 rfl (by exact rfl) rfl rfl rfl rfl (LeAll.cons (Le.refl _) (LeAll.cons (Le.refl _) (LeAll.cons (Le.refl _) (LeAll.cons (Le.refl _) (LeAll.cons (Le.refl _) (LeAll.cons (Le.refl _) (LeAll.cons (Le.refl _) (LeAll.cons (Le.refl _) (LeAll.cons (Le.refl _) (LeAll.cons (Le.refl _) (LeAll.cons (Le.refl _) (LeAll.cons (Le.refl _) (LeAll.cons (Le.refl _) LeAll.nil)))))))))))))) ?_
      refine wh_q rfl rfl (q_move rfl) ?_
      obtain ⟨v3, hb4, h⟩ := obind h
      refine wh_l rfl rfl (oh_call1 [] fn171 rfl rfl (fun τ hτ => c171 hb4 τ) ?_)
      refine wh_nil ?_
      refine wmh_ite rfl h (fun hc5 h => ?_) (fun hc5 h => ?_)
      · refine wmh_seq ?_
        refine wmh_region ?_
        refine wh_q rfl rfl (q_assign rfl) ?_
        refine wh_nil ?_
        refine wmh_ret ?_
        obtain rfl := (some_inj h).symm
        exact ⟨_, _, rh_one rfl rfl, sub_cuts (is := [0]) rfl, rfl, rfl⟩
      · refine wmh_skip ?_
        refine wmh_seq ?_
        refine wmh_region ?_
        refine wh_q rfl rfl (q_assign rfl) ?_
        refine wh_nil ?_
        refine wmh_ret ?_
        obtain rfl := (some_inj h).symm
        exact ⟨_, _, rh_one rfl rfl, sub_cuts (is := [0]) rfl, rfl, rfl⟩
end Go.Gw
