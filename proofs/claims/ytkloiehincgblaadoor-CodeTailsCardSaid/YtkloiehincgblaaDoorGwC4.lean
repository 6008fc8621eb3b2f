/- Part of the proof: GwC4. -/
import Derived.Test.YtkloiehincgblaaDoorGwC3
import Derived.Test.YtkloiehincgblaaDoorProg
import Derived.KernelRfl
set_option linter.unusedSimpArgs false
set_option linter.unusedVariables false
set_option maxRecDepth 100000
set_option maxHeartbeats 4000000
namespace Go.Gw
open Go.Proofs Go.Gw
def p11 : (List UInt8) → Option ((Option CCode) × GErr)
| v1 =>
if (decide ((v1.length : Int) = 0)) then
some (none, (GErr.s 0))
else
(at? v1 0) >>= fun v3 =>
if (!decide ((v3.toNat : Int) = 71)) then
some (none, (GErr.s 1))
else
(sub? v1 1 (v1.length : Int)) >>= fun v6 =>
(p42 v6 GErr.nil) >>= fun (v11, v12, v13) =>
if (!v13.isNil) then
some (none, v13)
else
if (decide (0 < (v12.length : Int))) then
some (none, (GErr.s 1))
else
v11 >>= fun v16 =>
(p43 v16) >>= fun v17 =>
if (!v17) then
some (none, (GErr.s 2))
else
v11 >>= fun v26 =>
(p15 v26) >>= fun v27 =>
(p44 v27 v1) >>= fun v29 =>
if (!v29) then
some (none, (GErr.s 1))
else
some (v11, GErr.nil)
theorem c11 [ErrC] {v1 : List UInt8} {r : (Option CCode) × GErr} (h : p11 v1 = some r) (τ : Store) (hG : GL gls τ) : CMH Tryd.prog 11 [slA 1 u8A v1] [.frm τ] (Ret1 (.tup [optA CCode.A r.1, errA r.2]) [] τ) := by
  rw [p11.eq_1] at h
  refine ch_enter Tryd.func11 rfl Tryd.ntmps11 rfl ?_
  refine wmh_seq ?_
  refine wmh_region ?_
  refine wh_q rfl rfl (q_assign rfl) ?_
  refine wh_q rfl rfl (q_assign rfl) ?_
  refine wh_nil ?_
  refine wmh_seq ?_
  refine wmh_seq ?_
  refine wmh_region ?_
  refine wh_q rfl rfl (q_move rfl) ?_
  refine wh_q rfl rfl (q_len_slA Tryd.underlying22 rfl) ?_
  refine wh_q rfl rfl (q_bin rfl rfl rfl) ?_
  refine wh_nil ?_
  refine wmh_ite rfl h (fun hc0 h => ?_) (fun hc0 h => ?_)
  · refine wmh_seq ?_
    refine wmh_drawn _ [] [0, 1, 2] mixed (by kernel_rfl) (sub_cuts (is := [0]) rfl) ?_
    refine vh_q rfl rfl rfl rfl (q_load_glob ty26 hG (j := 0) rfl (cut1_at 0 rfl)) ?_
    refine vh_q rfl rfl rfl rfl (q_assign rfl) ?_
    refine vh_q rfl rfl rfl rfl (q_assign rfl) ?_
    refine vh_nil ?_
    refine wmh_ret ?_
    obtain rfl := (some_inj h).symm
    exact ⟨_, _, rh_two rfl rfl rfl, sub_cuts (is := [0]) rfl, rfl, rfl⟩
  · refine wmh_skip ?_
    refine wmh_seq ?_
    refine wmh_seq ?_
    refine wmh_region ?_
    refine wh_q rfl rfl (q_move rfl) ?_
    obtain ⟨v3, hb2, h⟩ := obind h
    refine wh_q rfl rfl (q_index el22 rfl rfl hb2) ?_
    refine wh_q rfl rfl (q_load_ref ty5 rfl rfl rfl) ?_
    refine wh_q rfl rfl (q_bin rfl rfl rfl) ?_
    refine wh_nil ?_
    refine wmh_ite rfl h (fun hc3 h => ?_) (fun hc3 h => ?_)
    · refine wmh_seq ?_
      refine wmh_drawn _ [] [0, 1, 2] mixed (by kernel_rfl) (sub_cuts (is := [0]) rfl) ?_
      refine vh_q rfl rfl rfl rfl (q_load_glob ty26 hG (j := 1) rfl (cut1_at 0 rfl)) ?_
      refine vh_q rfl rfl rfl rfl (q_assign rfl) ?_
      refine vh_q rfl rfl rfl rfl (q_assign rfl) ?_
      refine vh_nil ?_
      refine wmh_ret ?_
      obtain rfl := (some_inj h).symm
      exact ⟨_, _, rh_two rfl rfl rfl, sub_cuts (is := [0]) rfl, rfl, rfl⟩
    · refine wmh_skip ?_
      refine wmh_seq ?_
      refine wmh_region ?_
      refine wh_q rfl rfl (q_move rfl) ?_
      obtain ⟨v6, hb5, h⟩ := obind h
      refine wh_q rfl rfl (q_slice_slA el22 rfl rfl rfl hb5) ?_
      refine wh_q rfl rfl (q_build pl89 ze89 rfl rfl) ?_
      refine wh_l rfl rfl (oh_box (n := 2) rfl rfl rfl (fun k7 => ?_))
      refine wh_q rfl rfl (q_assign rfl) ?_
      refine wh_nil ?_
      refine wmh_seq ?_
      refine wmh_region ?_
      refine wh_q rfl rfl (q_move rfl) ?_
      obtain ⟨⟨v11, v12, v13⟩, hb7, h⟩ := obind h
      refine wh_l rfl rfl (oh_call1 [0] fn42 rfl rfl (fun τ hτ => c42 hb7 τ (gl_has (n := 0) hG rfl hτ)) ?_)
      refine wh_q rfl rfl (q_assign rfl) ?_
      refine wh_nil ?_
      refine wmh_seq ?_
      refine wmh_block ?_
      refine wmh_seq ?_
      refine wmh_region ?_
      refine wh_q rfl rfl (q_move rfl) ?_
      refine wh_q rfl rfl (q_nilCheck_own rfl) ?_
      refine wh_q rfl rfl (q_fieldAddr_own fl89_1 rfl) ?_
      refine wh_q rfl rfl (q_load_own ty26 rfl (i := 0) rfl rfl) ?_
      refine wh_q rfl rfl (q_nil_neq Tryd.underlying26 rfl (nilB_err _)) ?_
      refine wh_q rfl rfl (q_assign rfl) ?_
      refine wh_nil ?_
      refine wmh_ite rfl h (fun hc8 h => ?_) (fun hc8 h => ?_)
      · refine wmh_seq ?_
        refine wmh_drawn _ [] [0, 1, 2, 3, 4, 5] mixed (by kernel_rfl) (sub_cuts (is := [0]) rfl) ?_
        refine vh_q rfl rfl rfl rfl (q_move rfl) ?_
        refine vh_q rfl rfl rfl rfl (q_nilCheck_own rfl) ?_
        refine vh_q rfl rfl rfl rfl (q_fieldAddr_own fl89_1 rfl) ?_
        refine vh_q rfl rfl rfl rfl (q_load_own ty26 rfl (i := 0) rfl rfl) ?_
        refine vh_q rfl rfl rfl rfl (q_assign rfl) ?_
        refine vh_q rfl rfl rfl rfl (q_assign rfl) ?_
        refine vh_nil ?_
        refine wmh_ret ?_
        obtain rfl := (some_inj h).symm
        exact ⟨_, _, rh_two rfl rfl rfl, sub_cuts (is := [1]) rfl, rfl, rfl⟩
      · refine wmh_seq ?_
        refine wmh_region ?_
        refine wh_q rfl rfl (q_move rfl) ?_
        refine wh_q rfl rfl (q_nilCheck_own rfl) ?_
        refine wh_q rfl rfl (q_fieldAddr_own fl89_0 rfl) ?_
        refine wh_q rfl rfl (q_load_own ty22 rfl (i := 0) rfl rfl) ?_
        refine wh_q rfl rfl (q_len_slA Tryd.underlying22 rfl) ?_
        refine wh_q rfl rfl (q_bin rfl rfl rfl) ?_
        refine wh_q rfl rfl (q_assign rfl) ?_
        refine wh_nil ?_
        refine wmh_ite rfl h (fun hc9 h => ?_) (fun hc9 h => ?_)
        · refine wmh_seq ?_
          refine wmh_drawn _ [] [0, 1, 2] mixed (by kernel_rfl) (sub_cuts (is := [1]) rfl) ?_
          refine vh_q rfl rfl rfl rfl (q_load_glob ty26 hG (j := 1) rfl (cut1_at 0 rfl)) ?_
          refine vh_q rfl rfl rfl rfl (q_assign rfl) ?_
          refine vh_q rfl rfl rfl rfl (q_assign rfl) ?_
          refine vh_nil ?_
          refine wmh_ret ?_
          obtain rfl := (some_inj h).symm
          exact ⟨_, _, rh_two rfl rfl rfl, sub_cuts (is := [1]) rfl, rfl, rfl⟩
        · refine wmh_seq ?_
          refine wmh_region ?_
          refine wh_q rfl rfl (q_move rfl) ?_
          obtain ⟨v16, hu12, h⟩ := obind h
          refine wh_opt (t := 40) rfl hu12 ?_
          obtain ⟨v17, hb13, h⟩ := obind h
          refine wh_l rfl rfl (oh_call1 [] fn43 rfl rfl (fun τ hτ => c43 hb13 τ) ?_)
          refine wh_q rfl rfl (q_not rfl) ?_
          refine wh_q rfl rfl (q_assign rfl) ?_
          refine wh_nil ?_
          refine wmh_ite rfl h (fun hc14 h => ?_) (fun hc14 h => ?_)
          · refine wmh_seq ?_
            refine wmh_drawn _ [] [0, 1, 2] mixed (by kernel_rfl) (sub_cuts (is := [1]) rfl) ?_
            refine vh_q rfl rfl rfl rfl (q_load_glob ty26 hG (j := 2) rfl (cut1_at 0 rfl)) ?_
            refine vh_q rfl rfl rfl rfl (q_assign rfl) ?_
            refine vh_q rfl rfl rfl rfl (q_assign rfl) ?_
            refine vh_nil ?_
            refine wmh_ret ?_
            obtain rfl := (some_inj h).symm
            exact ⟨_, _, rh_two rfl rfl rfl, sub_cuts (is := [1]) rfl, rfl, rfl⟩
          · refine wmh_seq ?_
            refine wmh_region ?_
            refine wh_q rfl rfl (q_move rfl) ?_
            obtain ⟨v26, hu21, h⟩ := obind h
            refine wh_opt (t := 45) rfl hu21 ?_
            obtain ⟨v27, hb22, h⟩ := obind h
            refine wh_l rfl rfl (oh_frz u8A_enc (oh_callX (α := Acc) [] fn15 rfl rfl (fun τ hτ => c15 hb22 τ) (fun a28 => ⟨_, _, rfl, rfl, ?_⟩)))
            refine wh_q rfl rfl (q_move rfl) ?_
            obtain ⟨v29, hb23, h⟩ := obind h
            refine wh_l rfl rfl (oh_call1 [] fn44 rfl rfl (fun τ hτ => c44 hb23 τ) ?_)
            refine wh_q rfl rfl (q_not rfl) ?_
            refine wh_q rfl rfl (q_assign rfl) ?_
            refine wh_nil ?_
            refine wmh_ite rfl h (fun hc24 h => ?_) (fun hc24 h => ?_)
            · refine wmh_seq ?_
              refine wmh_drawn _ [] [0, 1, 2] mixed (by kernel_rfl) (sub_cuts (is := [1]) rfl) ?_
              refine vh_q rfl rfl rfl rfl (q_load_glob ty26 hG (j := 1) rfl (cut1_at 0 rfl)) ?_
              refine vh_q rfl rfl rfl rfl (q_assign rfl) ?_
              refine vh_q rfl rfl rfl rfl (q_assign rfl) ?_
              refine vh_nil ?_
              refine wmh_ret ?_
              obtain rfl := (some_inj h).symm
              exact ⟨_, _, rh_two rfl rfl rfl, sub_cuts (is := [1]) rfl, rfl, rfl⟩
            · refine wmh_skip ?_
              refine wmh_seq ?_
              refine wmh_region ?_
              refine wh_q rfl rfl (q_move rfl) ?_
              refine wh_q rfl rfl (q_assign rfl) ?_
              refine wh_q rfl rfl (q_assign rfl) ?_
              refine wh_nil ?_
              refine wmh_ret ?_
              obtain rfl := (some_inj h).symm
              exact ⟨_, _, rh_two rfl rfl rfl, sub_cuts (is := [1]) rfl, rfl, rfl⟩
def p10 : Option Bool :=
(p11 []) >>= fun (v3, v4) =>
if (v3.isNone) then
some (!v4.isNil)
else
some false
theorem c10 [ErrC]  {r : Bool} (h : p10 = some r) (τ : Store) (hG : GL gls τ) : CMH Tryd.prog 10 [] [.frm τ] (Ret1 (.sc (.bool r)) [] τ) := by
  rw [p10.eq_1] at h
  refine ch_enter Tryd.func10 rfl Tryd.ntmps10 rfl ?_
  refine wmh_seq ?_
  refine wmh_region ?_
  refine wh_q rfl rfl (q_assign rfl) ?_
  refine wh_nil ?_
  refine wmh_seq ?_
  refine wmh_region ?_
  obtain ⟨⟨v3, v4⟩, hb1, h⟩ := obind h
  refine wh_l rfl rfl (oh_call1 [] fn11 rfl rfl (fun τ hτ => CMH.le (LeL.cons (le_nil 1) (LeL.refl _)) (c11 hb1 τ (gl_has (n := 0) hG rfl hτ))) ?_)
  refine wh_q rfl rfl (q_move rfl) ?_
  refine wh_q rfl rfl (q_extract rfl rfl) ?_
  refine wh_q rfl rfl (q_extract rfl rfl) ?_
  refine wh_q rfl rfl (q_assign rfl) ?_
  refine wh_q rfl rfl (q_assign rfl) ?_
  refine wh_nil ?_
  refine wmh_seq ?_
  refine wmh_region ?_
  refine wh_q rfl rfl (q_move rfl) ?_
  refine wh_q rfl rfl (q_nilp_eql Tryd.underlying24 rfl (nilP_opt _)) ?_
  refine wh_q rfl rfl (q_move rfl) ?_
  refine wh_ite (t := 9) rfl h (fun hc3 h => ?_) (fun hc3 h => ?_)
  · refine wh_q rfl rfl (q_move rfl) ?_
    refine wh_q rfl rfl (q_nil_neq Tryd.underlying26 rfl (nilB_err _)) ?_
    refine wh_q rfl rfl (q_pick_t rfl rfl) ?_
    refine wh_q rfl rfl (q_assign rfl) ?_
    refine wh_nil ?_
    refine wmh_ret ?_
    obtain rfl := (some_inj h).symm
    exact ⟨_, _, rh_one rfl rfl, sub_cuts (is := [0]) rfl, rfl, rfl⟩
  · refine wh_sk rfl rfl ?_
    refine wh_sk rfl rfl ?_
    refine wh_q rfl rfl (q_pick_f rfl rfl) ?_
    refine wh_q rfl rfl (q_assign rfl) ?_
    refine wh_nil ?_
    refine wmh_ret ?_
    obtain rfl := (some_inj h).symm
    exact ⟨_, _, rh_one rfl rfl, sub_cuts (is := [0]) rfl, rfl, rfl⟩
def p12 : Int → Int → Option Int
| v1, v2 =>
(rem? v1 v2) >>= fun v4 =>
if (decide (v4 < 0)) then
some (i64 (v4 + v2))
else
some v4
theorem c12 [ErrC] {v1 : Int} {v2 : Int} {r : Int} (h : p12 v1 v2 = some r) (τ : Store) : CMH Tryd.prog 12 [iA v1, iA v2] [.frm τ] (Ret1 (iA r) [] τ) := by
  rw [p12.eq_1] at h
  refine ch_enter Tryd.func12 rfl Tryd.ntmps12 rfl ?_
  refine wmh_seq ?_
  refine wmh_region ?_
  refine wh_q rfl rfl (q_assign rfl) ?_
  refine wh_nil ?_
  refine wmh_seq ?_
  refine wmh_region ?_
  refine wh_q rfl rfl (q_move rfl) ?_
  refine wh_q rfl rfl (q_move rfl) ?_
  obtain ⟨v4, hb1, h⟩ := obind h
  refine wh_q rfl rfl (q_rem rfl rfl hb1) ?_
  refine wh_q rfl rfl (q_assign rfl) ?_
  refine wh_nil ?_
  refine wmh_seq ?_
  refine wmh_seq ?_
  refine wmh_region ?_
  refine wh_q rfl rfl (q_move rfl) ?_
  refine wh_q rfl rfl (q_bin rfl rfl rfl) ?_
  refine wh_nil ?_
  refine wmh_ite rfl h (fun hc2 h => ?_) (fun hc2 h => ?_)
  · refine wmh_region ?_
    refine wh_q rfl rfl (q_move rfl) ?_
    refine wh_q rfl rfl (q_move rfl) ?_
    refine wh_q rfl rfl (q_bin rfl rfl rfl) ?_
    refine wh_q rfl rfl (q_assign rfl) ?_
    refine wh_nil ?_
    refine wmh_seq ?_
    refine wmh_region ?_
    refine wh_q rfl rfl (q_move rfl) ?_
    refine wh_q rfl rfl (q_assign rfl) ?_
    refine wh_nil ?_
    refine wmh_ret ?_
    obtain rfl := (some_inj h).symm
    exact ⟨_, _, rh_one rfl rfl, sub_cuts (is := [0]) rfl, rfl, rfl⟩
  · refine wmh_skip ?_
    refine wmh_seq ?_
    refine wmh_region ?_
    refine wh_q rfl rfl (q_move rfl) ?_
    refine wh_q rfl rfl (q_assign rfl) ?_
    refine wh_nil ?_
    refine wmh_ret ?_
    obtain rfl := (some_inj h).symm
    exact ⟨_, _, rh_one rfl rfl, sub_cuts (is := [0]) rfl, rfl, rfl⟩
def l13_1 : List UInt8 → (List UInt8) → Option (List UInt8)
| [], v5 =>
some v5
| v14 :: l, v5 =>
(app1? 2 v5 v14) >>= fun v17 =>
l13_1 l v17
def p13 : (List UInt8) → Option (List UInt8)
| v1 =>
(mk0? 2 (v1.length : Int)) >>= fun _ =>
(l13_1 v1 []) >>= fun v13 =>
some v13
theorem c13 [ErrC] {v1 : List UInt8} {r : List UInt8} (h : p13 v1 = some r) (τ : Store) : CMH Tryd.prog 13 [slA 1 u8A v1] [.frm τ] (RetX (fun q0 : Acc => accU q0 r.length) (fun q0 : Acc => [.acc q0 5 1 (List.map u8A r)]) τ) := by
  rw [p13.eq_1] at h
  refine ch_enter Tryd.func13 rfl Tryd.ntmps13 rfl ?_
  refine wmh_seq ?_
  refine wmh_region ?_
  refine wh_q rfl rfl (q_assign rfl) ?_
  refine wh_nil ?_
  refine wmh_seq ?_
  refine wmh_region ?_
  refine wh_q rfl rfl (q_move rfl) ?_
  refine wh_q rfl rfl (q_len_slA Tryd.underlying22 rfl) ?_
  obtain ⟨_, hb1, h⟩ := obind h
  refine wh_l rfl rfl (oh_make0 ap22 rfl rfl hb1 (fun a3 => ?_))
  refine wh_q rfl rfl (q_assign rfl) ?_
  refine wh_nil ?_
  refine wmh_seq ?_
  refine wmh_seq ?_
  refine wmh_region ?_
  refine wh_q rfl rfl (q_assign rfl) ?_
  refine wh_nil ?_
  obtain ⟨v13, hr8, h⟩ := obind h
  refine wmh_block ?_
  refine wmh_loopL (fun l s L H => match s with | v5 => ∃ (j : Nat) (v6 : Int) (a4 : Acc) , v6 = (j : Int) ∧ v1.drop j = l ∧ Sub [(0, slA 1 u8A v1), (3, accU a4 v5.length), (4, iA v6)] L ∧ SubH [.acc a4 5 1 (List.map u8A v5), .frm τ] H) (fun r e L H => match r with | v13 => ∃ (a12 : Acc), e = .exit 0 ∧ Sub [(3, accU a12 v13.length)] L ∧ SubH [.acc a12 5 1 (List.map u8A v13), .frm τ] H) hr8 ⟨0, 0, a3, rfl, rfl, (sub_of ⟨rfl, rfl, rfl, trivial⟩), (sub_cuts (is := [0, 0]) rfl)⟩ ?_ ?_
  · intro e L H hp
    obtain ⟨a12, rfl, hs, hh⟩ := hp
    refine wmh_sub hs hh ?_
    refine wmh_seq ?_
    refine wmh_region ?_
    refine wh_q rfl rfl (q_move rfl) ?_
    refine wh_q rfl rfl (q_assign rfl) ?_
    refine wh_nil ?_
    refine wmh_ret ?_
    obtain rfl := (some_inj h).symm
    exact ⟨_, _, rh_one rfl rfl, sub_cuts (is := [0, 0]) rfl, a12, rfl, rfl⟩
  · rintro l v5 r h L H hp
    obtain ⟨j, v6, a4, hi, hd, hs, hh⟩ := hp
    refine wmh_sub hs hh ?_
    refine wmh_len (s := 0) rfl (fun hl => ?_)
    obtain _ | ⟨v14, l⟩ := l
    · have hj := drop_end hd
      rw [l13_1.eq_1] at h
      refine wmh_seq ?_
      refine wmh_seq ?_
      refine wmh_region ?_
      refine wh_q rfl rfl (q_move rfl) ?_
      refine wh_q rfl rfl (q_move rfl) ?_
      refine wh_q rfl rfl (q_len_slA Tryd.underlying22 rfl) ?_
      refine wh_q rfl rfl (q_bin rfl rfl rfl) ?_
      refine wh_nil ?_
      refine wmh_cond rfl (fun hc => ?_) (fun hc => ?_)
      · exfalso; have := of_decide_eq_true hc; omega
      · refine wmh_exit ?_
        obtain rfl := (some_inj h).symm
        exact ⟨a4, rfl, (sub_of ⟨rfl, trivial⟩), (sub_cuts (is := [0, 0]) rfl)⟩
    · obtain ⟨hat, hj, hd⟩ := at_drop hd
      rw [← hi] at hat
      rw [l13_1.eq_2] at h
      refine wmh_seq ?_
      refine wmh_seq ?_
      refine wmh_region ?_
      refine wh_q rfl rfl (q_move rfl) ?_
      refine wh_q rfl rfl (q_move rfl) ?_
      refine wh_q rfl rfl (q_len_slA Tryd.underlying22 rfl) ?_
      refine wh_q rfl rfl (q_bin rfl rfl rfl) ?_
      refine wh_nil ?_
      refine wmh_cond rfl (fun hc => ?_) (fun hc => ?_)
      · refine wmh_skip ?_
        refine wmh_seq ?_
        refine wmh_block ?_
        refine wmh_region ?_
        refine wh_q rfl rfl (q_move rfl) ?_
        refine wh_q rfl rfl (q_move rfl) ?_
        refine wh_q rfl rfl (q_move rfl) ?_
        refine wh_q rfl rfl (q_index el22 rfl rfl hat) ?_
        refine wh_q rfl rfl (q_load_ref ty5 rfl rfl rfl) ?_
        refine wh_q rfl rfl (q_slice_oneL (u8A v14) el22 zel22 rfl (Le.refl _) rfl rfl) ?_
        obtain ⟨v17, hb10, h⟩ := obind h
        refine wh_l rfl rfl (oh_acc1 (i := 0) v14 ap22 ⟨_, Tryd.underlying22⟩ u8A_enc rfl rfl rfl hb10 (fun a18 => ?_))
        refine wh_q rfl rfl (q_assign rfl) ?_
        refine wh_nil ?_
        refine wmh_region ?_
        refine wh_q rfl rfl (q_move rfl) ?_
        refine wh_q rfl rfl (q_add1 rfl rfl (by omega)) ?_
        refine wh_q rfl rfl (q_assign rfl) ?_
        refine wh_nil ?_
        exact ⟨_, _, v17, rfl, h, j + 1, v6 + 1, a18, (by omega), hd, (sub_of ⟨rfl, rfl, rfl, trivial⟩), (sub_cuts (is := [0, 0]) rfl)⟩
      · exfalso; have := of_decide_eq_false hc; omega
def p3 : (List UInt8) → (List UInt8) → Int → Option Bool
| v1, v2, v3 =>
(p10) >>= fun v5 =>
if (!v5) then
some false
else
(if (decide (1000 < (v1.length : Int))) then
some true
else
some (decide (100 < (v2.length : Int))) : Option Bool) >>= fun v6 =>
if v6 then
some v5
else
(p11 v1) >>= fun (v9, v10) =>
(if (!v10.isNil) then
some true
else
some (v9.isNone) : Option Bool) >>= fun v11 =>
if v11 then
(if v5 then
some (v9.isNone)
else
some false : Option Bool) >>= fun v12 =>
some v12
else
(p12 v3 (v1.length : Int)) >>= fun v17 =>
(sub? v1 0 v17) >>= fun v18 =>
(p11 v18) >>= fun (v19, v20) =>
(p13 v1) >>= fun v33 =>
(app? 2 v33 v2) >>= fun v35 =>
(p11 v35) >>= fun (v37, v38) =>
if v5 then
if (!v20.isNil) then
some ((!v38.isNil) == (decide (0 < (v2.length : Int))))
else
some false
else
some false
theorem c3 [ErrC] {v1 : List UInt8} {v2 : List UInt8} {v3 : Int} {r : Bool} (h : p3 v1 v2 v3 = some r) (τ : Store) (hG : GL gls τ) : CMH Tryd.prog 3 [slA 1 u8A v1, slA 1 u8A v2, iA v3] [.frm τ] (Ret1 (.sc (.bool r)) [] τ) := by
  rw [p3.eq_1] at h
  refine ch_enter Tryd.func3 rfl Tryd.ntmps3 rfl ?_
  refine wmh_seq ?_
  refine wmh_region ?_
  refine wh_q rfl rfl (q_assign rfl) ?_
  refine wh_nil ?_
  refine wmh_seq ?_
  refine wmh_region ?_
  obtain ⟨v5, hb1, h⟩ := obind h
  refine wh_l rfl rfl (oh_call1 [] fn10 rfl rfl (fun τ hτ => c10 hb1 τ (gl_has (n := 0) hG rfl hτ)) ?_)
  refine wh_q rfl rfl (q_assign rfl) ?_
  refine wh_nil ?_
  refine wmh_seq ?_
  refine wmh_seq ?_
  refine wmh_region ?_
  refine wh_q rfl rfl (q_move rfl) ?_
  refine wh_q rfl rfl (q_not rfl) ?_
  refine wh_nil ?_
  refine wmh_ite rfl h (fun hc2 h => ?_) (fun hc2 h => ?_)
  · refine wmh_seq ?_
    refine wmh_region ?_
    refine wh_q rfl rfl (q_assign rfl) ?_
    refine wh_nil ?_
    refine wmh_ret ?_
    obtain rfl := (some_inj h).symm
    exact ⟨_, _, rh_one rfl rfl, sub_cuts (is := [0]) rfl, rfl, rfl⟩
  · refine wmh_skip ?_
    refine wmh_seq ?_
    obtain ⟨jr7, hx, hj7⟩ := obind h
    refine wmh_join (ι := Bool) (fun i L H => match i with | v6 => jr7 = v6 ∧ Sub [(0, slA 1 u8A v1), (1, slA 1 u8A v2), (2, iA v3), (7, .sc (.bool v5)), (24, .sc (.bool v6))] L ∧ SubH [.frm τ] H) ?_ ?_
    · have h := hx
      refine wmh_region ?_
      refine wh_q rfl rfl (q_move rfl) ?_
      refine wh_q rfl rfl (q_len_slA Tryd.underlying22 rfl) ?_
      refine wh_q rfl rfl (q_bin rfl rfl rfl) ?_
      refine wh_q rfl rfl (q_move rfl) ?_
      refine wh_ite (t := 20) rfl h (fun hc9 h => ?_) (fun hc9 h => ?_)
      · refine wh_sk rfl rfl ?_
        refine wh_sk rfl rfl ?_
        refine wh_sk rfl rfl ?_
        refine wh_q rfl rfl (q_pick_t rfl rfl) ?_
        refine wh_nil ?_
        obtain rfl := (some_inj h).symm
        exact ⟨true, rfl, (sub_of ⟨rfl, rfl, rfl, rfl, rfl, trivial⟩), (sub_cuts (is := [0]) rfl)⟩
      · refine wh_q rfl rfl (q_move rfl) ?_
        refine wh_q rfl rfl (q_len_slA Tryd.underlying22 rfl) ?_
        refine wh_q rfl rfl (q_bin rfl rfl rfl) ?_
        refine wh_q rfl rfl (q_pick_f rfl rfl) ?_
        refine wh_nil ?_
        obtain rfl := (some_inj h).symm
        exact ⟨(decide (100 < (v2.length : Int))), rfl, (sub_of ⟨rfl, rfl, rfl, rfl, rfl, trivial⟩), (sub_cuts (is := [0]) rfl)⟩
    · rintro v6 L H hp
      obtain ⟨rfl, hs, hh⟩ := hp
      have h := hj7
      refine wmh_sub hs hh ?_
      refine wmh_ite rfl h (fun hc10 h => ?_) (fun hc10 h => ?_)
      · refine wmh_seq ?_
        refine wmh_region ?_
        refine wh_q rfl rfl (q_move rfl) ?_
        refine wh_q rfl rfl (q_assign rfl) ?_
        refine wh_nil ?_
        refine wmh_ret ?_
        obtain rfl := (some_inj h).symm
        exact ⟨_, _, rh_one rfl rfl, sub_cuts (is := [0]) rfl, rfl, rfl⟩
      · refine wmh_skip ?_
        refine wmh_seq ?_
        refine wmh_region ?_
        refine wh_q rfl rfl (q_move rfl) ?_
        obtain ⟨⟨v9, v10⟩, hb12, h⟩ := obind h
        refine wh_l rfl rfl (oh_call1 [] fn11 rfl rfl (fun τ hτ => c11 hb12 τ (gl_has (n := 0) hG rfl hτ)) ?_)
        refine wh_q rfl rfl (q_move rfl) ?_
        refine wh_q rfl rfl (q_extract rfl rfl) ?_
        refine wh_q rfl rfl (q_extract rfl rfl) ?_
        refine wh_q rfl rfl (q_assign rfl) ?_
        refine wh_q rfl rfl (q_assign rfl) ?_
        refine wh_nil ?_
        refine wmh_seq ?_
        obtain ⟨jr24, hx, hj24⟩ := obind h
        refine wmh_join (ι := Bool) (fun i L H => match i with | v11 => jr24 = v11 ∧ Sub [(0, slA 1 u8A v1), (1, slA 1 u8A v2), (2, iA v3), (7, .sc (.bool v5)), (8, optA CCode.A v9), (36, .sc (.bool v11))] L ∧ SubH [.frm τ] H) ?_ ?_
        · have h := hx
          refine wmh_region ?_
          refine wh_q rfl rfl (q_move rfl) ?_
          refine wh_q rfl rfl (q_nil_neq Tryd.underlying26 rfl (nilB_err _)) ?_
          refine wh_q rfl rfl (q_move rfl) ?_
          refine wh_ite (t := 33) rfl h (fun hc26 h => ?_) (fun hc26 h => ?_)
          · refine wh_sk rfl rfl ?_
            refine wh_sk rfl rfl ?_
            refine wh_q rfl rfl (q_pick_t rfl rfl) ?_
            refine wh_nil ?_
            obtain rfl := (some_inj h).symm
            exact ⟨true, rfl, (sub_of ⟨rfl, rfl, rfl, rfl, rfl, rfl, trivial⟩), (sub_cuts (is := [0]) rfl)⟩
          · refine wh_q rfl rfl (q_move rfl) ?_
            refine wh_q rfl rfl (q_nilp_eql Tryd.underlying24 rfl (nilP_opt _)) ?_
            refine wh_q rfl rfl (q_pick_f rfl rfl) ?_
            refine wh_nil ?_
            obtain rfl := (some_inj h).symm
            exact ⟨(v9.isNone), rfl, (sub_of ⟨rfl, rfl, rfl, rfl, rfl, rfl, trivial⟩), (sub_cuts (is := [0]) rfl)⟩
        · rintro v11 L H hp
          obtain ⟨rfl, hs, hh⟩ := hp
          have h := hj24
          refine wmh_sub hs hh ?_
          refine wmh_ite rfl h (fun hc27 h => ?_) (fun hc27 h => ?_)
          · obtain ⟨jr32, hx, hj32⟩ := obind h
            refine wmh_join (ι := Bool) (fun i L H => match i with | v12 => jr32 = v12 ∧ Sub [(6, .sc (.bool v12))] L ∧ SubH [.frm τ] H) ?_ ?_
            · have h := hx
              refine wmh_region ?_
              refine wh_q rfl rfl (q_move rfl) ?_
              refine wh_q rfl rfl (q_move rfl) ?_
              refine wh_ite (t := 38) rfl h (fun hc34 h => ?_) (fun hc34 h => ?_)
              · refine wh_q rfl rfl (q_move rfl) ?_
                refine wh_q rfl rfl (q_nilp_eql Tryd.underlying24 rfl (nilP_opt _)) ?_
                refine wh_q rfl rfl (q_pick_t rfl rfl) ?_
                refine wh_q rfl rfl (q_assign rfl) ?_
                refine wh_nil ?_
                obtain rfl := (some_inj h).symm
                exact ⟨(v9.isNone), rfl, (sub_of ⟨rfl, trivial⟩), (sub_cuts (is := [0]) rfl)⟩
              · refine wh_sk rfl rfl ?_
                refine wh_sk rfl rfl ?_
                refine wh_q rfl rfl (q_pick_f rfl rfl) ?_
                refine wh_q rfl rfl (q_assign rfl) ?_
                refine wh_nil ?_
                obtain rfl := (some_inj h).symm
                exact ⟨false, rfl, (sub_of ⟨rfl, trivial⟩), (sub_cuts (is := [0]) rfl)⟩
            · rintro v12 L H hp
              obtain ⟨rfl, hs, hh⟩ := hp
              have h := hj32
              refine wmh_sub hs hh ?_
              refine wmh_ret ?_
              obtain rfl := (some_inj h).symm
              exact ⟨_, _, rh_one rfl rfl, sub_cuts (is := [0]) rfl, rfl, rfl⟩
          · refine wmh_skip ?_
            refine wmh_seq ?_
            refine wmh_region ?_
            refine wh_q rfl rfl (q_move rfl) ?_
            refine wh_q rfl rfl (q_move rfl) ?_
            refine wh_q rfl rfl (q_move rfl) ?_
            refine wh_q rfl rfl (q_len_slA Tryd.underlying22 rfl) ?_
            obtain ⟨v17, hb38, h⟩ := obind h
            refine wh_l rfl rfl (oh_call1 [] fn12 rfl rfl (fun τ hτ => c12 hb38 τ) ?_)
            obtain ⟨v18, hb39, h⟩ := obind h
            refine wh_q rfl rfl (q_slice_slA el22 rfl rfl rfl hb39) ?_
            obtain ⟨⟨v19, v20⟩, hb40, h⟩ := obind h
            refine wh_l rfl rfl (oh_call1 [] fn11 rfl rfl (fun τ hτ => c11 hb40 τ (gl_has (n := 0) hG rfl hτ)) ?_)
            refine wh_q rfl rfl (q_move rfl) ?_
            refine wh_q rfl rfl (q_extract rfl rfl) ?_
            refine wh_q rfl rfl (q_extract rfl rfl) ?_
            refine wh_q rfl rfl (q_assign rfl) ?_
            refine wh_q rfl rfl (q_assign rfl) ?_
            refine wh_nil ?_
            refine wmh_seq ?_
            refine wmh_region ?_
            refine wh_q rfl rfl (q_move rfl) ?_
            obtain ⟨v33, hb47, h⟩ := obind h
            refine wh_l rfl rfl (oh_callX (α := Acc) [] fn13 rfl rfl (fun τ hτ => c13 hb47 τ) (fun a34 => ?_))
            refine wh_q rfl rfl (q_move rfl) ?_
            obtain ⟨v35, hb48, h⟩ := obind h
            refine wh_l rfl rfl (oh_frz u8A_enc (oh_acc (i := 0) ap22 ⟨_, Tryd.underlying22⟩ u8A_enc rfl rfl rfl hb48 (fun a36 => ⟨_, _, rfl, rfl, ?_⟩)))
            obtain ⟨⟨v37, v38⟩, hb49, h⟩ := obind h
            refine wh_l rfl rfl (oh_call1 [] fn11 rfl rfl (fun τ hτ => c11 hb49 τ (gl_has (n := 0) hG rfl hτ)) ?_)
            refine wh_q rfl rfl (q_move rfl) ?_
            refine wh_q rfl rfl (q_extract rfl rfl) ?_
            refine wh_q rfl rfl (q_extract rfl rfl) ?_
            refine wh_q rfl rfl (q_assign rfl) ?_
            refine wh_q rfl rfl (q_assign rfl) ?_
            refine wh_nil ?_
            refine wmh_seq ?_
            refine wmh_region ?_
            refine wh_q rfl rfl (q_move rfl) ?_
            refine wh_q rfl rfl (q_move rfl) ?_
            refine wh_ite (t := 61) rfl h (fun hc52 h => ?_) (fun hc52 h => ?_)
            · refine wh_q rfl rfl (q_move rfl) ?_
              refine wh_q rfl rfl (q_nil_neq Tryd.underlying26 rfl (nilB_err _)) ?_
              refine wh_q rfl rfl (q_pick_t rfl rfl) ?_
              refine wh_q rfl rfl (q_move rfl) ?_
              refine wh_ite (t := 65) rfl h (fun hc53 h => ?_) (fun hc53 h => ?_)
              · refine wh_q rfl rfl (q_move rfl) ?_
                refine wh_q rfl rfl (q_nil_neq Tryd.underlying26 rfl (nilB_err _)) ?_
                refine wh_q rfl rfl (q_move rfl) ?_
                refine wh_q rfl rfl (q_len_slA Tryd.underlying22 rfl) ?_
                refine wh_q rfl rfl (q_bin rfl rfl rfl) ?_
                refine wh_q rfl rfl (q_eqb Tryd.underlying4 rfl rfl) ?_
                refine wh_q rfl rfl (q_pick_t rfl rfl) ?_
                refine wh_q rfl rfl (q_assign rfl) ?_
                refine wh_nil ?_
                refine wmh_ret ?_
                obtain rfl := (some_inj h).symm
                exact ⟨_, _, rh_one rfl rfl, sub_cuts (is := [0]) rfl, rfl, rfl⟩
              · refine wh_sk rfl rfl ?_
                refine wh_sk rfl rfl ?_
                refine wh_sk rfl rfl ?_
                refine wh_sk rfl rfl ?_
                refine wh_sk rfl rfl ?_
                refine wh_sk rfl rfl ?_
                refine wh_q rfl rfl (q_pick_f rfl rfl) ?_
                refine wh_q rfl rfl (q_assign rfl) ?_
                refine wh_nil ?_
                refine wmh_ret ?_
                obtain rfl := (some_inj h).symm
                exact ⟨_, _, rh_one rfl rfl, sub_cuts (is := [0]) rfl, rfl, rfl⟩
            · refine wh_sk rfl rfl ?_
              refine wh_sk rfl rfl ?_
              refine wh_q rfl rfl (q_pick_f rfl rfl) ?_
              refine wh_q rfl rfl (q_move rfl) ?_
              refine wh_sk rfl rfl ?_
              refine wh_sk rfl rfl ?_
              refine wh_sk rfl rfl ?_
              refine wh_sk rfl rfl ?_
              refine wh_sk rfl rfl ?_
              refine wh_sk rfl rfl ?_
              refine wh_q rfl rfl (q_pick_f rfl rfl) ?_
              refine wh_q rfl rfl (q_assign rfl) ?_
              refine wh_nil ?_
              refine wmh_ret ?_
              obtain rfl := (some_inj h).symm
              exact ⟨_, _, rh_one rfl rfl, sub_cuts (is := [0]) rfl, rfl, rfl⟩
def l14_1 (v2 : List UInt8) : List UInt8 → Int → Option (LR Unit Bool)
| [], v3 =>
some (.go ())
| v7 :: l, v3 =>
(at? v2 v3) >>= fun v9 =>
if (!(decide ((v7.toNat : Int) = (v9.toNat : Int)))) then
some (.ret false)
else
l14_1 v2 l (v3 + 1)
def p14 : (List UInt8) → (List UInt8) → Option Bool
| v1, v2 =>
if (!decide ((v1.length : Int) = (v2.length : Int))) then
some false
else
(l14_1 v2 v1 0) >>= fun rr10 =>
(match rr10 with
| .go _ =>
some true
| .ret rv =>
some rv)
theorem c14 [ErrC] {v1 : List UInt8} {v2 : List UInt8} {r : Bool} (h : p14 v1 v2 = some r) (τ : Store) : CMH Tryd.prog 14 [slA 1 u8A v1, slA 1 u8A v2] [.frm τ] (Ret1 (.sc (.bool r)) [] τ) := by
  rw [p14.eq_1] at h
  refine ch_enter Tryd.func14 rfl Tryd.ntmps14 rfl ?_
  refine wmh_seq ?_
  refine wmh_region ?_
  refine wh_q rfl rfl (q_assign rfl) ?_
  refine wh_nil ?_
  refine wmh_seq ?_
  refine wmh_seq ?_
  refine wmh_region ?_
  refine wh_q rfl rfl (q_move rfl) ?_
  refine wh_q rfl rfl (q_len_slA Tryd.underlying22 rfl) ?_
  refine wh_q rfl rfl (q_move rfl) ?_
  refine wh_q rfl rfl (q_len_slA Tryd.underlying22 rfl) ?_
  refine wh_q rfl rfl (q_bin rfl rfl rfl) ?_
  refine wh_nil ?_
  refine wmh_ite rfl h (fun hc0 h => ?_) (fun hc0 h => ?_)
  · refine wmh_seq ?_
    refine wmh_region ?_
    refine wh_q rfl rfl (q_assign rfl) ?_
    refine wh_nil ?_
    refine wmh_ret ?_
    obtain rfl := (some_inj h).symm
    exact ⟨_, _, rh_one rfl rfl, sub_cuts (is := [0]) rfl, rfl, rfl⟩
  · refine wmh_skip ?_
    refine wmh_seq ?_
    refine wmh_seq ?_
    refine wmh_region ?_
    refine wh_q rfl rfl (q_assign rfl) ?_
    refine wh_nil ?_
    obtain ⟨rr10, hr10, h⟩ := obind h
    refine wmh_block ?_
    refine wmh_loopL (fun l s L H => match s with | v3 => ∃ (j : Nat) , v3 = (j : Int) ∧ v1.drop j = l ∧ Sub [(0, slA 1 u8A v1), (1, slA 1 u8A v2), (5, iA v3)] L ∧ SubH [.frm τ] H) (fun r e L H => match r with | .go _ =>  e = .exit 0 ∧ Sub [] L ∧ SubH [.frm τ] H | .ret rv => e = .ret ∧ RetRel Tryd.prog Tryd.f14 29 (Ret1 (.sc (.bool rv)) [] τ) L H) hr10 ⟨0, rfl, rfl, (sub_of ⟨rfl, rfl, rfl, trivial⟩), (sub_cuts (is := [0]) rfl)⟩ ?_ ?_
    · intro e L H hp
      obtain _ | rv := rr10
      · obtain ⟨rfl, hs, hh⟩ := hp
        refine wmh_sub hs hh ?_
        refine wmh_seq ?_
        refine wmh_region ?_
        refine wh_q rfl rfl (q_assign rfl) ?_
        refine wh_nil ?_
        refine wmh_ret ?_
        obtain rfl := (some_inj h).symm
        exact ⟨_, _, rh_one rfl rfl, sub_cuts (is := [0]) rfl, rfl, rfl⟩
      · obtain ⟨rfl, hp⟩ := hp
        obtain rfl := (some_inj h).symm
        exact hp
    · rintro l v3 r h L H hp
      obtain ⟨j, hi, hd, hs, hh⟩ := hp
      refine wmh_sub hs hh ?_
      refine wmh_len (s := 0) rfl (fun hl => ?_)
      obtain _ | ⟨v7, l⟩ := l
      · have hj := drop_end hd
        rw [l14_1.eq_1] at h
        refine wmh_seq ?_
        refine wmh_seq ?_
        refine wmh_region ?_
        refine wh_q rfl rfl (q_move rfl) ?_
        refine wh_q rfl rfl (q_move rfl) ?_
        refine wh_q rfl rfl (q_len_slA Tryd.underlying22 rfl) ?_
        refine wh_q rfl rfl (q_bin rfl rfl rfl) ?_
        refine wh_nil ?_
        refine wmh_cond rfl (fun hc => ?_) (fun hc => ?_)
        · exfalso; have := of_decide_eq_true hc; omega
        · refine wmh_exit ?_
          obtain rfl := (some_inj h).symm
          exact ⟨rfl, (sub_of trivial), (sub_cuts (is := [0]) rfl)⟩
      · obtain ⟨hat, hj, hd⟩ := at_drop hd
        rw [← hi] at hat
        rw [l14_1.eq_2] at h
        refine wmh_seq ?_
        refine wmh_seq ?_
        refine wmh_region ?_
        refine wh_q rfl rfl (q_move rfl) ?_
        refine wh_q rfl rfl (q_move rfl) ?_
        refine wh_q rfl rfl (q_len_slA Tryd.underlying22 rfl) ?_
        refine wh_q rfl rfl (q_bin rfl rfl rfl) ?_
        refine wh_nil ?_
        refine wmh_cond rfl (fun hc => ?_) (fun hc => ?_)
        · refine wmh_skip ?_
          refine wmh_seq ?_
          refine wmh_block ?_
          refine wmh_seq ?_
          refine wmh_drawn _ [] [0, 1, 2, 3, 4, 5, 6, 7, 8, 9] mixed (by kernel_rfl) (sub_cuts (is := []) rfl) ?_
          refine vh_q rfl rfl rfl rfl (q_move rfl) ?_
          refine vh_q rfl rfl rfl rfl (q_move rfl) ?_
          refine vh_q rfl rfl rfl rfl (q_index el22 rfl rfl hat) ?_
          refine vh_q rfl rfl rfl rfl (q_load_ref ty5 rfl rfl rfl) ?_
          refine vh_q rfl rfl rfl rfl (q_move rfl) ?_
          refine vh_q rfl rfl rfl rfl (q_move rfl) ?_
          obtain ⟨v9, hb12, h⟩ := obind h
          refine vh_q rfl rfl rfl rfl (q_index el22 rfl rfl hb12) ?_
          refine vh_q rfl rfl rfl rfl (q_load_ref ty5 rfl rfl rfl) ?_
          refine vh_q rfl rfl rfl rfl (q_bin rfl rfl rfl) ?_
          refine vh_q rfl rfl rfl rfl (q_assign rfl) ?_
          refine vh_nil ?_
          refine wmh_seq ?_
          refine wmh_region ?_
          refine wh_q rfl rfl (q_move rfl) ?_
          refine wh_q rfl rfl (q_not rfl) ?_
          refine wh_nil ?_
          refine wmh_ite rfl h (fun hc13 h => ?_) (fun hc13 h => ?_)
          · refine wmh_seq ?_
            refine wmh_region ?_
            refine wh_q rfl rfl (q_assign rfl) ?_
            refine wh_nil ?_
            refine wmh_ret ?_
            obtain rfl := (some_inj h).symm
            exact ⟨rfl, _, _, rh_one rfl rfl, sub_cuts (is := [0]) rfl, rfl, rfl⟩
          · refine wmh_skip ?_
            refine wmh_region ?_
            refine wh_q rfl rfl (q_move rfl) ?_
            refine wh_q rfl rfl (q_add1 rfl rfl (by omega)) ?_
            refine wh_q rfl rfl (q_assign rfl) ?_
            refine wh_nil ?_
            exact ⟨_, _, (v3 + 1), rfl, h, j + 1, (by omega), hd, (sub_of ⟨rfl, rfl, rfl, trivial⟩), (sub_cuts (is := [0]) rfl)⟩
        · exfalso; have := of_decide_eq_false hc; omega
def p16 : CCode → Option Int
| v1 =>
some (v1.ins.length : Int)
theorem c16 [ErrC] {v1 : CCode} {r : Int} (h : p16 v1 = some r) (τ : Store) : CMH Tryd.prog 16 [.ref (CCode.A v1) 0] [.frm τ] (Ret1 (iA r) [] τ) := by
  rw [p16.eq_1] at h
  refine ch_enter Tryd.func16 rfl Tryd.ntmps16 rfl ?_
  refine wmh_seq ?_
  refine wmh_region ?_
  refine wh_q rfl rfl (q_assign rfl) ?_
  refine wh_nil ?_
  refine wmh_seq ?_
  refine wmh_region ?_
  refine wh_q rfl rfl (q_move rfl) ?_
  refine wh_q rfl rfl (q_nilCheck_ref rfl) ?_
  refine wh_q rfl rfl (q_fieldAddr_ref fl96_2 rfl) ?_
  refine wh_q rfl rfl (q_load_ref ty94 rfl rfl rfl) ?_
  refine wh_q rfl rfl (q_len_slA Tryd.underlying94 rfl) ?_
  refine wh_q rfl rfl (q_assign rfl) ?_
  refine wh_nil ?_
  refine wmh_ret ?_
  obtain rfl := (some_inj h).symm
  exact ⟨_, _, rh_one rfl rfl, sub_cuts (is := [0]) rfl, rfl, rfl⟩
def p4 : (List UInt8) → Option Bool
| v1 =>
(p10) >>= fun v3 =>
if (!v3) then
some false
else
if (decide (2000 < (v1.length : Int))) then
some v3
else
(p11 v1) >>= fun (v6, v7) =>
(p13 v1) >>= fun v16 =>
(p11 v16) >>= fun (v18, v19) =>
if (!v7.isNil) then
(if v3 then
if (v6.isNone) then
if (v18.isNone) then
some (!v19.isNil)
else
some false
else
some false
else
some false : Option Bool) >>= fun v20 =>
some v20
else
if v3 then
if (!v6.isNone) then
if (!v18.isNone) then
if (v19.isNil) then
v6 >>= fun v49 =>
(p15 v49) >>= fun v50 =>
(p14 v50 v1) >>= fun v52 =>
if v52 then
v18 >>= fun v53 =>
(p15 v53) >>= fun v54 =>
(p14 v54 v1) >>= fun v56 =>
if v56 then
v6 >>= fun v57 =>
(p16 v57) >>= fun v58 =>
if (decide (1 ≤ v58)) then
v6 >>= fun v59 =>
(p16 v59) >>= fun v60 =>
v18 >>= fun v61 =>
(p16 v61) >>= fun v62 =>
some (decide (v60 = v62))
else
some false
else
some false
else
some false
else
some false
else
some false
else
some false
else
some false
theorem c4 [ErrC] {v1 : List UInt8} {r : Bool} (h : p4 v1 = some r) (τ : Store) (hG : GL gls τ) : CMH Tryd.prog 4 [slA 1 u8A v1] [.frm τ] (Ret1 (.sc (.bool r)) [] τ) := by
  rw [p4.eq_1] at h
  refine ch_enter Tryd.func4 rfl Tryd.ntmps4 rfl ?_
  refine wmh_seq ?_
  refine wmh_region ?_
  refine wh_q rfl rfl (q_assign rfl) ?_
  refine wh_nil ?_
  refine wmh_seq ?_
  refine wmh_region ?_
  obtain ⟨v3, hb1, h⟩ := obind h
  refine wh_l rfl rfl (oh_call1 [] fn10 rfl rfl (fun τ hτ => c10 hb1 τ (gl_has (n := 0) hG rfl hτ)) ?_)
  refine wh_q rfl rfl (q_assign rfl) ?_
  refine wh_nil ?_
  refine wmh_seq ?_
  refine wmh_seq ?_
  refine wmh_region ?_
  refine wh_q rfl rfl (q_move rfl) ?_
  refine wh_q rfl rfl (q_not rfl) ?_
  refine wh_nil ?_
  refine wmh_ite rfl h (fun hc2 h => ?_) (fun hc2 h => ?_)
  · refine wmh_seq ?_
    refine wmh_region ?_
    refine wh_q rfl rfl (q_assign rfl) ?_
    refine wh_nil ?_
    refine wmh_ret ?_
    obtain rfl := (some_inj h).symm
    exact ⟨_, _, rh_one rfl rfl, sub_cuts (is := [0]) rfl, rfl, rfl⟩
  · refine wmh_skip ?_
    refine wmh_seq ?_
    refine wmh_seq ?_
    refine wmh_region ?_
    refine wh_q rfl rfl (q_move rfl) ?_
    refine wh_q rfl rfl (q_len_slA Tryd.underlying22 rfl) ?_
    refine wh_q rfl rfl (q_bin rfl rfl rfl) ?_
    refine wh_nil ?_
    refine wmh_ite rfl h (fun hc3 h => ?_) (fun hc3 h => ?_)
    · refine wmh_seq ?_
      refine wmh_region ?_
      refine wh_q rfl rfl (q_move rfl) ?_
      refine wh_q rfl rfl (q_assign rfl) ?_
      refine wh_nil ?_
      refine wmh_ret ?_
      obtain rfl := (some_inj h).symm
      exact ⟨_, _, rh_one rfl rfl, sub_cuts (is := [0]) rfl, rfl, rfl⟩
    · refine wmh_skip ?_
      refine wmh_seq ?_
      refine wmh_region ?_
      refine wh_q rfl rfl (q_move rfl) ?_
      obtain ⟨⟨v6, v7⟩, hb5, h⟩ := obind h
      refine wh_l rfl rfl (oh_call1 [] fn11 rfl rfl (fun τ hτ => c11 hb5 τ (gl_has (n := 0) hG rfl hτ)) ?_)
      refine wh_q rfl rfl (q_move rfl) ?_
      refine wh_q rfl rfl (q_extract rfl rfl) ?_
      refine wh_q rfl rfl (q_extract rfl rfl) ?_
      refine wh_q rfl rfl (q_assign rfl) ?_
      refine wh_q rfl rfl (q_assign rfl) ?_
      refine wh_nil ?_
      refine wmh_seq ?_
      refine wmh_region ?_
      refine wh_q rfl rfl (q_move rfl) ?_
      obtain ⟨v16, hb10, h⟩ := obind h
      refine wh_l rfl rfl (oh_frz u8A_enc (oh_callX (α := Acc) [] fn13 rfl rfl (fun τ hτ => c13 hb10 τ) (fun a17 => ⟨_, _, rfl, rfl, ?_⟩)))
      obtain ⟨⟨v18, v19⟩, hb11, h⟩ := obind h
      refine wh_l rfl rfl (oh_call1 [] fn11 rfl rfl (fun τ hτ => c11 hb11 τ (gl_has (n := 0) hG rfl hτ)) ?_)
      refine wh_q rfl rfl (q_move rfl) ?_
      refine wh_q rfl rfl (q_extract rfl rfl) ?_
      refine wh_q rfl rfl (q_extract rfl rfl) ?_
      refine wh_q rfl rfl (q_assign rfl) ?_
      refine wh_q rfl rfl (q_assign rfl) ?_
      refine wh_nil ?_
      refine wmh_seq ?_
      refine wmh_seq ?_
      refine wmh_region ?_
      refine wh_q rfl rfl (q_move rfl) ?_
      refine wh_q rfl rfl (q_nil_neq Tryd.underlying26 rfl (nilB_err _)) ?_
      refine wh_nil ?_
      refine wmh_ite rfl h (fun hc19 h => ?_) (fun hc19 h => ?_)
      · obtain ⟨jr32, hx, hj32⟩ := obind h
        refine wmh_join (ι := Bool) (fun i L H => match i with | v20 => jr32 = v20 ∧ Sub [(2, .sc (.bool v20))] L ∧ SubH [.frm τ] H) ?_ ?_
        · have h := hx
          refine wmh_region ?_
          refine wh_q rfl rfl (q_move rfl) ?_
          refine wh_q rfl rfl (q_move rfl) ?_
          refine wh_ite (t := 29) rfl h (fun hc36 h => ?_) (fun hc36 h => ?_)
          · refine wh_q rfl rfl (q_move rfl) ?_
            refine wh_q rfl rfl (q_nilp_eql Tryd.underlying24 rfl (nilP_opt _)) ?_
            refine wh_q rfl rfl (q_pick_t rfl rfl) ?_
            refine wh_q rfl rfl (q_move rfl) ?_
            refine wh_ite (t := 33) rfl h (fun hc37 h => ?_) (fun hc37 h => ?_)
            · refine wh_q rfl rfl (q_move rfl) ?_
              refine wh_q rfl rfl (q_nilp_eql Tryd.underlying24 rfl (nilP_opt _)) ?_
              refine wh_q rfl rfl (q_pick_t rfl rfl) ?_
              refine wh_q rfl rfl (q_move rfl) ?_
              refine wh_ite (t := 37) rfl h (fun hc38 h => ?_) (fun hc38 h => ?_)
              · refine wh_q rfl rfl (q_move rfl) ?_
                refine wh_q rfl rfl (q_nil_neq Tryd.underlying26 rfl (nilB_err _)) ?_
                refine wh_q rfl rfl (q_pick_t rfl rfl) ?_
                refine wh_q rfl rfl (q_assign rfl) ?_
                refine wh_nil ?_
                obtain rfl := (some_inj h).symm
                exact ⟨(!v19.isNil), rfl, (sub_of ⟨rfl, trivial⟩), (sub_cuts (is := [0]) rfl)⟩
              · refine wh_sk rfl rfl ?_
                refine wh_sk rfl rfl ?_
                refine wh_q rfl rfl (q_pick_f rfl rfl) ?_
                refine wh_q rfl rfl (q_assign rfl) ?_
                refine wh_nil ?_
                obtain rfl := (some_inj h).symm
                exact ⟨false, rfl, (sub_of ⟨rfl, trivial⟩), (sub_cuts (is := [0]) rfl)⟩
            · refine wh_sk rfl rfl ?_
              refine wh_sk rfl rfl ?_
              refine wh_q rfl rfl (q_pick_f rfl rfl) ?_
              refine wh_q rfl rfl (q_move rfl) ?_
              refine wh_sk rfl rfl ?_
              refine wh_sk rfl rfl ?_
              refine wh_q rfl rfl (q_pick_f rfl rfl) ?_
              refine wh_q rfl rfl (q_assign rfl) ?_
              refine wh_nil ?_
              obtain rfl := (some_inj h).symm
              exact ⟨false, rfl, (sub_of ⟨rfl, trivial⟩), (sub_cuts (is := [0]) rfl)⟩
          · refine wh_sk rfl rfl ?_
            refine wh_sk rfl rfl ?_
            refine wh_q rfl rfl (q_pick_f rfl rfl) ?_
            refine wh_q rfl rfl (q_move rfl) ?_
            refine wh_sk rfl rfl ?_
            refine wh_sk rfl rfl ?_
            refine wh_q rfl rfl (q_pick_f rfl rfl) ?_
            refine wh_q rfl rfl (q_move rfl) ?_
            refine wh_sk rfl rfl ?_
            refine wh_sk rfl rfl ?_
            refine wh_q rfl rfl (q_pick_f rfl rfl) ?_
            refine wh_q rfl rfl (q_assign rfl) ?_
            refine wh_nil ?_
            obtain rfl := (some_inj h).symm
            exact ⟨false, rfl, (sub_of ⟨rfl, trivial⟩), (sub_cuts (is := [0]) rfl)⟩
        · rintro v20 L H hp
          obtain ⟨rfl, hs, hh⟩ := hp
          have h := hj32
          refine wmh_sub hs hh ?_
          refine wmh_ret ?_
          obtain rfl := (some_inj h).symm
          exact ⟨_, _, rh_one rfl rfl, sub_cuts (is := [0]) rfl, rfl, rfl⟩
      · refine wmh_skip ?_
        refine wmh_seq ?_
        refine wmh_region ?_
        refine wh_q rfl rfl (q_move rfl) ?_
        refine wh_q rfl rfl (q_move rfl) ?_
        refine wh_ite (t := 42) rfl h (fun hc77 h => ?_) (fun hc77 h => ?_)
        · refine wh_q rfl rfl (q_move rfl) ?_
          refine wh_q rfl rfl (q_nilp_neq Tryd.underlying24 rfl (nilP_opt _)) ?_
          refine wh_q rfl rfl (q_pick_t rfl rfl) ?_
          refine wh_q rfl rfl (q_move rfl) ?_
          refine wh_ite (t := 46) rfl h (fun hc78 h => ?_) (fun hc78 h => ?_)
          · refine wh_q rfl rfl (q_move rfl) ?_
            refine wh_q rfl rfl (q_nilp_neq Tryd.underlying24 rfl (nilP_opt _)) ?_
            refine wh_q rfl rfl (q_pick_t rfl rfl) ?_
            refine wh_q rfl rfl (q_move rfl) ?_
            refine wh_ite (t := 50) rfl h (fun hc79 h => ?_) (fun hc79 h => ?_)
            · refine wh_q rfl rfl (q_move rfl) ?_
              refine wh_q rfl rfl (q_nil_eql Tryd.underlying26 rfl (nilB_err _)) ?_
              refine wh_q rfl rfl (q_pick_t rfl rfl) ?_
              refine wh_q rfl rfl (q_move rfl) ?_
              refine wh_ite (t := 54) rfl h (fun hc80 h => ?_) (fun hc80 h => ?_)
              · refine wh_q rfl rfl (q_move rfl) ?_
                obtain ⟨v49, hu81, h⟩ := obind h
                refine wh_opt (t := 55) rfl hu81 ?_
                obtain ⟨v50, hb82, h⟩ := obind h
                refine wh_l rfl rfl (oh_frz u8A_enc (oh_callX (α := Acc) [] fn15 rfl rfl (fun τ hτ => c15 hb82 τ) (fun a51 => ⟨_, _, rfl, rfl, ?_⟩)))
                refine wh_q rfl rfl (q_move rfl) ?_
                obtain ⟨v52, hb83, h⟩ := obind h
                refine wh_l rfl rfl (oh_call1 [] fn14 rfl rfl (fun τ hτ => c14 hb83 τ) ?_)
                refine wh_q rfl rfl (q_pick_t rfl rfl) ?_
                refine wh_q rfl rfl (q_move rfl) ?_
                refine wh_ite (t := 60) rfl h (fun hc84 h => ?_) (fun hc84 h => ?_)
                · refine wh_q rfl rfl (q_move rfl) ?_
                  obtain ⟨v53, hu85, h⟩ := obind h
                  refine wh_opt (t := 61) rfl hu85 ?_
                  obtain ⟨v54, hb86, h⟩ := obind h
                  refine wh_l rfl rfl (oh_frz u8A_enc (oh_callX (α := Acc) [] fn15 rfl rfl (fun τ hτ => c15 hb86 τ) (fun a55 => ⟨_, _, rfl, rfl, ?_⟩)))
                  refine wh_q rfl rfl (q_move rfl) ?_
                  obtain ⟨v56, hb87, h⟩ := obind h
                  refine wh_l rfl rfl (oh_call1 [] fn14 rfl rfl (fun τ hτ => c14 hb87 τ) ?_)
                  refine wh_q rfl rfl (q_pick_t rfl rfl) ?_
                  refine wh_q rfl rfl (q_move rfl) ?_
                  refine wh_ite (t := 66) rfl h (fun hc88 h => ?_) (fun hc88 h => ?_)
                  · refine wh_q rfl rfl (q_move rfl) ?_
                    obtain ⟨v57, hu89, h⟩ := obind h
                    refine wh_opt (t := 67) rfl hu89 ?_
                    obtain ⟨v58, hb90, h⟩ := obind h
                    refine wh_l rfl rfl (oh_call1 [] fn16 rfl rfl (fun τ hτ => c16 hb90 τ) ?_)
                    refine wh_q rfl rfl (q_bin rfl rfl rfl) ?_
                    refine wh_q rfl rfl (q_pick_t rfl rfl) ?_
                    refine wh_q rfl rfl (q_move rfl) ?_
                    refine wh_ite (t := 71) rfl h (fun hc91 h => ?_) (fun hc91 h => ?_)
                    · refine wh_q rfl rfl (q_move rfl) ?_
                      obtain ⟨v59, hu92, h⟩ := obind h
                      refine wh_opt (t := 72) rfl hu92 ?_
                      obtain ⟨v60, hb93, h⟩ := obind h
                      refine wh_l rfl rfl (oh_call1 [] fn16 rfl rfl (fun τ hτ => c16 hb93 τ) ?_)
                      refine wh_q rfl rfl (q_move rfl) ?_
                      obtain ⟨v61, hu94, h⟩ := obind h
                      refine wh_opt (t := 74) rfl hu94 ?_
                      obtain ⟨v62, hb95, h⟩ := obind h
                      refine wh_l rfl rfl (oh_call1 [] fn16 rfl rfl (fun τ hτ => c16 hb95 τ) ?_)
                      refine wh_q rfl rfl (q_bin rfl rfl rfl) ?_
                      refine wh_q rfl rfl (q_pick_t rfl rfl) ?_
                      refine wh_q rfl rfl (q_assign rfl) ?_
                      refine wh_nil ?_
                      refine wmh_ret ?_
                      obtain rfl := (some_inj h).symm
                      exact ⟨_, _, rh_one rfl rfl, sub_cuts (is := [0]) rfl, rfl, rfl⟩
                    · refine wh_sk rfl rfl ?_
                      refine wh_sk rfl rfl ?_
                      refine wh_sk rfl rfl ?_
                      refine wh_sk rfl rfl ?_
                      refine wh_sk rfl rfl ?_
                      refine wh_q rfl rfl (q_pick_f rfl rfl) ?_
                      refine wh_q rfl rfl (q_assign rfl) ?_
                      refine wh_nil ?_
                      refine wmh_ret ?_
                      obtain rfl := (some_inj h).symm
                      exact ⟨_, _, rh_one rfl rfl, sub_cuts (is := [0]) rfl, rfl, rfl⟩
                  · refine wh_sk rfl rfl ?_
                    refine wh_sk rfl rfl ?_
                    refine wh_sk rfl rfl ?_
                    refine wh_q rfl rfl (q_pick_f rfl rfl) ?_
                    refine wh_q rfl rfl (q_move rfl) ?_
                    refine wh_sk rfl rfl ?_
                    refine wh_sk rfl rfl ?_
                    refine wh_sk rfl rfl ?_
                    refine wh_sk rfl rfl ?_
                    refine wh_sk rfl rfl ?_
                    refine wh_q rfl rfl (q_pick_f rfl rfl) ?_
                    refine wh_q rfl rfl (q_assign rfl) ?_
                    refine wh_nil ?_
                    refine wmh_ret ?_
                    obtain rfl := (some_inj h).symm
                    exact ⟨_, _, rh_one rfl rfl, sub_cuts (is := [0]) rfl, rfl, rfl⟩
                · refine wh_sk rfl rfl ?_
                  refine wh_sk rfl rfl ?_
                  refine wh_sk rfl rfl ?_
                  refine wh_sk rfl rfl ?_
                  refine wh_q rfl rfl (q_pick_f rfl rfl) ?_
                  refine wh_q rfl rfl (q_move rfl) ?_
                  refine wh_sk rfl rfl ?_
                  refine wh_sk rfl rfl ?_
                  refine wh_sk rfl rfl ?_
                  refine wh_q rfl rfl (q_pick_f rfl rfl) ?_
                  refine wh_q rfl rfl (q_move rfl) ?_
                  refine wh_sk rfl rfl ?_
                  refine wh_sk rfl rfl ?_
                  refine wh_sk rfl rfl ?_
                  refine wh_sk rfl rfl ?_
                  refine wh_sk rfl rfl ?_
                  refine wh_q rfl rfl (q_pick_f rfl rfl) ?_
                  refine wh_q rfl rfl (q_assign rfl) ?_
                  refine wh_nil ?_
                  refine wmh_ret ?_
                  obtain rfl := (some_inj h).symm
                  exact ⟨_, _, rh_one rfl rfl, sub_cuts (is := [0]) rfl, rfl, rfl⟩
              · refine wh_sk rfl rfl ?_
                refine wh_sk rfl rfl ?_
                refine wh_sk rfl rfl ?_
                refine wh_sk rfl rfl ?_
                refine wh_q rfl rfl (q_pick_f rfl rfl) ?_
                refine wh_q rfl rfl (q_move rfl) ?_
                refine wh_sk rfl rfl ?_
                refine wh_sk rfl rfl ?_
                refine wh_sk rfl rfl ?_
                refine wh_sk rfl rfl ?_
                refine wh_q rfl rfl (q_pick_f rfl rfl) ?_
                refine wh_q rfl rfl (q_move rfl) ?_
                refine wh_sk rfl rfl ?_
                refine wh_sk rfl rfl ?_
                refine wh_sk rfl rfl ?_
                refine wh_q rfl rfl (q_pick_f rfl rfl) ?_
                refine wh_q rfl rfl (q_move rfl) ?_
                refine wh_sk rfl rfl ?_
                refine wh_sk rfl rfl ?_
                refine wh_sk rfl rfl ?_
                refine wh_sk rfl rfl ?_
                refine wh_sk rfl rfl ?_
                refine wh_q rfl rfl (q_pick_f rfl rfl) ?_
                refine wh_q rfl rfl (q_assign rfl) ?_
                refine wh_nil ?_
                refine wmh_ret ?_
                obtain rfl := (some_inj h).symm
                exact ⟨_, _, rh_one rfl rfl, sub_cuts (is := [0]) rfl, rfl, rfl⟩
            · refine wh_sk rfl rfl ?_
              refine wh_sk rfl rfl ?_
              refine wh_q rfl rfl (q_pick_f rfl rfl) ?_
              refine wh_q rfl rfl (q_move rfl) ?_
              refine wh_sk rfl rfl ?_
              refine wh_sk rfl rfl ?_
              refine wh_sk rfl rfl ?_
              refine wh_sk rfl rfl ?_
              refine wh_q rfl rfl (q_pick_f rfl rfl) ?_
              refine wh_q rfl rfl (q_move rfl) ?_
              refine wh_sk rfl rfl ?_
              refine wh_sk rfl rfl ?_
              refine wh_sk rfl rfl ?_
              refine wh_sk rfl rfl ?_
              refine wh_q rfl rfl (q_pick_f rfl rfl) ?_
              refine wh_q rfl rfl (q_move rfl) ?_
              refine wh_sk rfl rfl ?_
              refine wh_sk rfl rfl ?_
              refine wh_sk rfl rfl ?_
              refine wh_q rfl rfl (q_pick_f rfl rfl) ?_
              refine wh_q rfl rfl (q_move rfl) ?_
              refine wh_sk rfl rfl ?_
              refine wh_sk rfl rfl ?_
              refine wh_sk rfl rfl ?_
              refine wh_sk rfl rfl ?_
              refine wh_sk rfl rfl ?_
              refine wh_q rfl rfl (q_pick_f rfl rfl) ?_
              refine wh_q rfl rfl (q_assign rfl) ?_
              refine wh_nil ?_
              refine wmh_ret ?_
              obtain rfl := (some_inj h).symm
              exact ⟨_, _, rh_one rfl rfl, sub_cuts (is := [0]) rfl, rfl, rfl⟩
          · refine wh_sk rfl rfl ?_
            refine wh_sk rfl rfl ?_
            refine wh_q rfl rfl (q_pick_f rfl rfl) ?_
            refine wh_q rfl rfl (q_move rfl) ?_
            refine wh_sk rfl rfl ?_
            refine wh_sk rfl rfl ?_
            refine wh_q rfl rfl (q_pick_f rfl rfl) ?_
            refine wh_q rfl rfl (q_move rfl) ?_
            refine wh_sk rfl rfl ?_
            refine wh_sk rfl rfl ?_
            refine wh_sk rfl rfl ?_
            refine wh_sk rfl rfl ?_
            refine wh_q rfl rfl (q_pick_f rfl rfl) ?_
            refine wh_q rfl rfl (q_move rfl) ?_
            refine wh_sk rfl rfl ?_
            refine wh_sk rfl rfl ?_
            refine wh_sk rfl rfl ?_
            refine wh_sk rfl rfl ?_
            refine wh_q rfl rfl (q_pick_f rfl rfl) ?_
            refine wh_q rfl rfl (q_move rfl) ?_
            refine wh_sk rfl rfl ?_
            refine wh_sk rfl rfl ?_
            refine wh_sk rfl rfl ?_
            refine wh_q rfl rfl (q_pick_f rfl rfl) ?_
            refine wh_q rfl rfl (q_move rfl) ?_
            refine wh_sk rfl rfl ?_
            refine wh_sk rfl rfl ?_
            refine wh_sk rfl rfl ?_
            refine wh_sk rfl rfl ?_
            refine wh_sk rfl rfl ?_
            refine wh_q rfl rfl (q_pick_f rfl rfl) ?_
            refine wh_q rfl rfl (q_assign rfl) ?_
            refine wh_nil ?_
            refine wmh_ret ?_
            obtain rfl := (some_inj h).symm
            exact ⟨_, _, rh_one rfl rfl, sub_cuts (is := [0]) rfl, rfl, rfl⟩
        · refine wh_sk rfl rfl ?_
          refine wh_sk rfl rfl ?_
          refine wh_q rfl rfl (q_pick_f rfl rfl) ?_
          refine wh_q rfl rfl (q_move rfl) ?_
          refine wh_sk rfl rfl ?_
          refine wh_sk rfl rfl ?_
          refine wh_q rfl rfl (q_pick_f rfl rfl) ?_
          refine wh_q rfl rfl (q_move rfl) ?_
          refine wh_sk rfl rfl ?_
          refine wh_sk rfl rfl ?_
          refine wh_q rfl rfl (q_pick_f rfl rfl) ?_
          refine wh_q rfl rfl (q_move rfl) ?_
          refine wh_sk rfl rfl ?_
          refine wh_sk rfl rfl ?_
          refine wh_sk rfl rfl ?_
          refine wh_sk rfl rfl ?_
          refine wh_q rfl rfl (q_pick_f rfl rfl) ?_
          refine wh_q rfl rfl (q_move rfl) ?_
          refine wh_sk rfl rfl ?_
          refine wh_sk rfl rfl ?_
          refine wh_sk rfl rfl ?_
          refine wh_sk rfl rfl ?_
          refine wh_q rfl rfl (q_pick_f rfl rfl) ?_
          refine wh_q rfl rfl (q_move rfl) ?_
          refine wh_sk rfl rfl ?_
          refine wh_sk rfl rfl ?_
          refine wh_sk rfl rfl ?_
          refine wh_q rfl rfl (q_pick_f rfl rfl) ?_
          refine wh_q rfl rfl (q_move rfl) ?_
          refine wh_sk rfl rfl ?_
          refine wh_sk rfl rfl ?_
          refine wh_sk rfl rfl ?_
          refine wh_sk rfl rfl ?_
          refine wh_sk rfl rfl ?_
          refine wh_q rfl rfl (q_pick_f rfl rfl) ?_
          refine wh_q rfl rfl (q_assign rfl) ?_
          refine wh_nil ?_
          refine wmh_ret ?_
          obtain rfl := (some_inj h).symm
          exact ⟨_, _, rh_one rfl rfl, sub_cuts (is := [0]) rfl, rfl, rfl⟩
end Go.Gw
