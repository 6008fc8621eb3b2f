/- Part of the proof: GwC3. -/
import Derived.Test.YtkloiehincgblaaDoorGwC2
import Derived.Test.YtkloiehincgblaaDoorProg
import Derived.KernelRfl
set_option linter.unusedSimpArgs false
set_option linter.unusedVariables false
set_option maxRecDepth 100000
set_option maxHeartbeats 4000000
namespace Go.Gw
open Go.Proofs Go.Gw
def l43_9 (v1 : CCode) (v96 : CFun) (v100 : CFun) : List CIns → Unit → Option (LR Unit Bool)
| [], _ =>
some (.go ())
| v136 :: l, _ =>
(p87 v1 v136 v96.regs v96.at_ v100.at_) >>= fun v140 =>
if (!v140) then
some (.ret false)
else
l43_9 v1 v96 v100 l ()
def l43_10 (v1 : CCode) (v96 : CFun) : List CIns → Unit → Option (LR Unit Bool)
| [], _ =>
some (.go ())
| v176 :: l, _ =>
(p87 v1 v176 v96.regs v96.at_ (v1.ins.length : Int)) >>= fun v180 =>
if (!v180) then
some (.ret false)
else
l43_10 v1 v96 l ()
def l43_8 (v1 : CCode) : List CFun → Int → Option (LR Unit Bool)
| [], v10 =>
some (.go ())
| v96 :: l, v10 =>
if (decide ((i64 (v10 + 1)) < (v1.funs.length : Int))) then
(at? v1.funs (i64 (v10 + 1))) >>= fun v100 =>
(if (decide (v10 = 0)) then
if (decide (0 < v96.at_)) then
((some (.ret false) : Option (LR Unit Bool)) >>= fun rv => some (.ret rv))
else
if (decide (v100.at_ ≤ v96.at_)) then
((some (.ret false) : Option (LR Unit Bool)) >>= fun rv => some (.ret rv))
else
if (decide ((v1.ins.length : Int) < v100.at_)) then
((some (.ret false) : Option (LR Unit Bool)) >>= fun rv => some (.ret rv))
else
if (decide (v96.regs < v96.params)) then
((some (.ret false) : Option (LR Unit Bool)) >>= fun rv => some (.ret rv))
else
if (decide ((i64 ((i64 (v96.params + v100.at_)) - v96.at_)) < v96.regs)) then
((some (.ret false) : Option (LR Unit Bool)) >>= fun rv => some (.ret rv))
else
(at? v1.ins (i64 (v100.at_ - 1))) >>= fun v124 =>
(p86 v124.op) >>= fun v125 =>
if (!v125) then
((some (.ret false) : Option (LR Unit Bool)) >>= fun rv => some (.ret rv))
else
some (.go (v124.op, v125, (!v125)))
else
if (decide (v100.at_ ≤ v96.at_)) then
((some (.ret false) : Option (LR Unit Bool)) >>= fun rv => some (.ret rv))
else
if (decide ((v1.ins.length : Int) < v100.at_)) then
((some (.ret false) : Option (LR Unit Bool)) >>= fun rv => some (.ret rv))
else
if (decide (v96.regs < v96.params)) then
((some (.ret false) : Option (LR Unit Bool)) >>= fun rv => some (.ret rv))
else
if (decide ((i64 ((i64 (v96.params + v100.at_)) - v96.at_)) < v96.regs)) then
((some (.ret false) : Option (LR Unit Bool)) >>= fun rv => some (.ret rv))
else
(at? v1.ins (i64 (v100.at_ - 1))) >>= fun v126 =>
(p86 v126.op) >>= fun v127 =>
if (!v127) then
((some (.ret false) : Option (LR Unit Bool)) >>= fun rv => some (.ret rv))
else
some (.go (v126.op, v127, (!v127))) : Option (LR (Int × Bool × Bool) (LR Unit Bool))) >>= fun jr728 =>
(match jr728 with
| .go (v117, v118, v119) =>
(sub? v1.ins v96.at_ v100.at_) >>= fun v129 =>
(l43_9 v1 v96 v100 v129 ()) >>= fun rr770 =>
(match rr770 with
| .go _ =>
l43_8 v1 l (v10 + 1)
| .ret rv =>
some (.ret rv))
| .ret rv => some rv)
else
(if (decide (v10 = 0)) then
if (decide (0 < v96.at_)) then
((some (.ret false) : Option (LR Unit Bool)) >>= fun rv => some (.ret rv))
else
if (decide ((v1.ins.length : Int) ≤ v96.at_)) then
((some (.ret false) : Option (LR Unit Bool)) >>= fun rv => some (.ret rv))
else
if (decide ((v1.ins.length : Int) < (v1.ins.length : Int))) then
((some (.ret false) : Option (LR Unit Bool)) >>= fun rv => some (.ret rv))
else
if (decide (v96.regs < v96.params)) then
((some (.ret false) : Option (LR Unit Bool)) >>= fun rv => some (.ret rv))
else
if (decide ((i64 ((i64 (v96.params + (v1.ins.length : Int))) - v96.at_)) < v96.regs)) then
((some (.ret false) : Option (LR Unit Bool)) >>= fun rv => some (.ret rv))
else
(at? v1.ins (i64 ((v1.ins.length : Int) - 1))) >>= fun v164 =>
(p86 v164.op) >>= fun v165 =>
if (!v165) then
((some (.ret false) : Option (LR Unit Bool)) >>= fun rv => some (.ret rv))
else
some (.go (v164.op, v165, (!v165)))
else
if (decide ((v1.ins.length : Int) ≤ v96.at_)) then
((some (.ret false) : Option (LR Unit Bool)) >>= fun rv => some (.ret rv))
else
if (decide ((v1.ins.length : Int) < (v1.ins.length : Int))) then
((some (.ret false) : Option (LR Unit Bool)) >>= fun rv => some (.ret rv))
else
if (decide (v96.regs < v96.params)) then
((some (.ret false) : Option (LR Unit Bool)) >>= fun rv => some (.ret rv))
else
if (decide ((i64 ((i64 (v96.params + (v1.ins.length : Int))) - v96.at_)) < v96.regs)) then
((some (.ret false) : Option (LR Unit Bool)) >>= fun rv => some (.ret rv))
else
(at? v1.ins (i64 ((v1.ins.length : Int) - 1))) >>= fun v166 =>
(p86 v166.op) >>= fun v167 =>
if (!v167) then
((some (.ret false) : Option (LR Unit Bool)) >>= fun rv => some (.ret rv))
else
some (.go (v166.op, v167, (!v167))) : Option (LR (Int × Bool × Bool) (LR Unit Bool))) >>= fun jr834 =>
(match jr834 with
| .go (v157, v158, v159) =>
(sub? v1.ins v96.at_ (v1.ins.length : Int)) >>= fun v169 =>
(l43_10 v1 v96 v169 ()) >>= fun rr876 =>
(match rr876 with
| .go _ =>
l43_8 v1 l (v10 + 1)
| .ret rv =>
some (.ret rv))
| .ret rv => some rv)
def l43_1 (v1 : CCode) : List CTag → Unit → Option (LR Unit Bool)
| [], _ =>
some (.go ())
| v181 :: l, _ =>
(p85 v1 v181) >>= fun v185 =>
if (!v185) then
some (.ret false)
else
l43_1 v1 l ()
def p43 : CCode → Option Bool
| v1 =>
if (decide ((v1.funs.length : Int) = 0)) then
some false
else
if (decide ((v1.ins.length : Int) = 0)) then
some false
else
if (decide ((v1.funs.length : Int) ≤ v1.main)) then
some false
else
(at? v1.funs v1.main) >>= fun v3 =>
if (decide (0 < v3.params)) then
some false
else
(l43_1 v1 v1.tags ()) >>= fun rr18 =>
(match rr18 with
| .go _ =>
(l43_8 v1 v1.funs 0) >>= fun rr664 =>
(match rr664 with
| .go _ =>
some true
| .ret rv =>
some rv)
| .ret rv =>
some rv)
theorem c43 [ErrC] {v1 : CCode} {r : Bool} (h : p43 v1 = some r) (τ : Store) : CMH Tryd.prog 43 [.ref (CCode.A v1) 0] [.frm τ] (Ret1 (.sc (.bool r)) [] τ) := by
  rw [p43.eq_1] at h
  refine ch_enter Tryd.func43 rfl Tryd.ntmps43 rfl ?_
  refine wmh_seq ?_
  refine wmh_region ?_
  refine wh_q rfl rfl (q_assign rfl) ?_
  refine wh_nil ?_
  refine wmh_seq ?_
  refine wmh_seq ?_
  refine wmh_drawn _ [] [0, 1, 2, 3, 4, 5, 6, 7, 8, 9, 10, 11, 12, 13, 14, 15, 16, 17, 18, 19, 20, 21, 22, 23, 24, 25, 26, 27, 28, 29, 30, 31, 32, 33, 34, 35, 36, 37, 38, 39] mixed (by kernel_rfl) (sub_cuts (is := []) rfl) ?_
  refine vh_q rfl rfl rfl rfl (q_move rfl) ?_
  refine vh_q rfl rfl rfl rfl (q_nilCheck_ref rfl) ?_
  refine vh_q rfl rfl rfl rfl (q_fieldAddr_ref fl96_1 rfl) ?_
  refine vh_q rfl rfl rfl rfl (q_load_ref ty93 rfl rfl rfl) ?_
  refine vh_q rfl rfl rfl rfl (q_len_slA Tryd.underlying93 rfl) ?_
  refine vh_q rfl rfl rfl rfl (q_bin rfl rfl rfl) ?_
  refine vh_q rfl rfl rfl rfl (q_move rfl) ?_
  refine vh_ite (t := 16) rfl h (fun hc4 h => ?_) (fun hc4 h => ?_)
  · refine vh_sk (sub_cuts (is := []) rfl) rfl rfl rfl ?_
    refine vh_sk (sub_cuts (is := []) rfl) rfl rfl rfl ?_
    refine vh_sk (sub_cuts (is := []) rfl) rfl rfl rfl ?_
    refine vh_sk (sub_cuts (is := []) rfl) rfl rfl rfl ?_
    refine vh_sk (sub_cuts (is := []) rfl) rfl rfl rfl ?_
    refine vh_sk (sub_cuts (is := []) rfl) rfl rfl rfl ?_
    refine vh_q rfl rfl rfl rfl (q_pick_t rfl rfl) ?_
    refine vh_q rfl rfl rfl rfl (q_move rfl) ?_
    refine vh_sk (sub_cuts (is := []) rfl) rfl rfl rfl ?_
    refine vh_sk (sub_cuts (is := []) rfl) rfl rfl rfl ?_
    refine vh_sk (sub_cuts (is := []) rfl) rfl rfl rfl ?_
    refine vh_sk (sub_cuts (is := []) rfl) rfl rfl rfl ?_
    refine vh_sk (sub_cuts (is := []) rfl) rfl rfl rfl ?_
    refine vh_sk (sub_cuts (is := []) rfl) rfl rfl rfl ?_
    refine vh_sk (sub_cuts (is := []) rfl) rfl rfl rfl ?_
    refine vh_sk (sub_cuts (is := []) rfl) rfl rfl rfl ?_
    refine vh_sk (sub_cuts (is := []) rfl) rfl rfl rfl ?_
    refine vh_sk (sub_cuts (is := []) rfl) rfl rfl rfl ?_
    refine vh_q rfl rfl rfl rfl (q_pick_t rfl rfl) ?_
    refine vh_q rfl rfl rfl rfl (q_move rfl) ?_
    refine vh_sk (sub_cuts (is := []) rfl) rfl rfl rfl ?_
    refine vh_sk (sub_cuts (is := []) rfl) rfl rfl rfl ?_
    refine vh_sk (sub_cuts (is := []) rfl) rfl rfl rfl ?_
    refine vh_sk (sub_cuts (is := []) rfl) rfl rfl rfl ?_
    refine vh_sk (sub_cuts (is := []) rfl) rfl rfl rfl ?_
    refine vh_sk (sub_cuts (is := []) rfl) rfl rfl rfl ?_
    refine vh_sk (sub_cuts (is := []) rfl) rfl rfl rfl ?_
    refine vh_sk (sub_cuts (is := []) rfl) rfl rfl rfl ?_
    refine vh_sk (sub_cuts (is := []) rfl) rfl rfl rfl ?_
    refine vh_sk (sub_cuts (is := []) rfl) rfl rfl rfl ?_
    refine vh_sk (sub_cuts (is := []) rfl) rfl rfl rfl ?_
    refine vh_sk (sub_cuts (is := []) rfl) rfl rfl rfl ?_
    refine vh_q rfl rfl rfl rfl (q_pick_t rfl rfl) ?_
    refine vh_nil ?_
    refine wmh_cond_t rfl ?_
    refine wmh_seq ?_
    refine wmh_region ?_
    refine wh_q rfl rfl (q_assign rfl) ?_
    refine wh_nil ?_
    refine wmh_ret ?_
    obtain rfl := (some_inj h).symm
    exact ⟨_, _, rh_one rfl rfl, sub_cuts (is := [0]) rfl, rfl, rfl⟩
  · refine vh_q rfl rfl rfl rfl (q_move rfl) ?_
    refine vh_q rfl rfl rfl rfl (q_nilCheck_ref rfl) ?_
    refine vh_q rfl rfl rfl rfl (q_fieldAddr_ref fl96_2 rfl) ?_
    refine vh_q rfl rfl rfl rfl (q_load_ref ty94 rfl rfl rfl) ?_
    refine vh_q rfl rfl rfl rfl (q_len_slA Tryd.underlying94 rfl) ?_
    refine vh_q rfl rfl rfl rfl (q_bin rfl rfl rfl) ?_
    refine vh_q rfl rfl rfl rfl (q_pick_f rfl rfl) ?_
    refine vh_q rfl rfl rfl rfl (q_move rfl) ?_
    refine vh_ite (t := 24) rfl h (fun hc5 h => ?_) (fun hc5 h => ?_)
    · refine vh_sk (sub_cuts (is := []) rfl) rfl rfl rfl ?_
      refine vh_sk (sub_cuts (is := []) rfl) rfl rfl rfl ?_
      refine vh_sk (sub_cuts (is := []) rfl) rfl rfl rfl ?_
      refine vh_sk (sub_cuts (is := []) rfl) rfl rfl rfl ?_
      refine vh_sk (sub_cuts (is := []) rfl) rfl rfl rfl ?_
      refine vh_sk (sub_cuts (is := []) rfl) rfl rfl rfl ?_
      refine vh_sk (sub_cuts (is := []) rfl) rfl rfl rfl ?_
      refine vh_sk (sub_cuts (is := []) rfl) rfl rfl rfl ?_
      refine vh_sk (sub_cuts (is := []) rfl) rfl rfl rfl ?_
      refine vh_sk (sub_cuts (is := []) rfl) rfl rfl rfl ?_
      refine vh_q rfl rfl rfl rfl (q_pick_t rfl rfl) ?_
      refine vh_q rfl rfl rfl rfl (q_move rfl) ?_
      refine vh_sk (sub_cuts (is := []) rfl) rfl rfl rfl ?_
      refine vh_sk (sub_cuts (is := []) rfl) rfl rfl rfl ?_
      refine vh_sk (sub_cuts (is := []) rfl) rfl rfl rfl ?_
      refine vh_sk (sub_cuts (is := []) rfl) rfl rfl rfl ?_
      refine vh_sk (sub_cuts (is := []) rfl) rfl rfl rfl ?_
      refine vh_sk (sub_cuts (is := []) rfl) rfl rfl rfl ?_
      refine vh_sk (sub_cuts (is := []) rfl) rfl rfl rfl ?_
      refine vh_sk (sub_cuts (is := []) rfl) rfl rfl rfl ?_
      refine vh_sk (sub_cuts (is := []) rfl) rfl rfl rfl ?_
      refine vh_sk (sub_cuts (is := []) rfl) rfl rfl rfl ?_
      refine vh_sk (sub_cuts (is := []) rfl) rfl rfl rfl ?_
      refine vh_sk (sub_cuts (is := []) rfl) rfl rfl rfl ?_
      refine vh_q rfl rfl rfl rfl (q_pick_t rfl rfl) ?_
      refine vh_nil ?_
      refine wmh_cond_t rfl ?_
      refine wmh_seq ?_
      refine wmh_region ?_
      refine wh_q rfl rfl (q_assign rfl) ?_
      refine wh_nil ?_
      refine wmh_ret ?_
      obtain rfl := (some_inj h).symm
      exact ⟨_, _, rh_one rfl rfl, sub_cuts (is := [0]) rfl, rfl, rfl⟩
    · refine vh_q rfl rfl rfl rfl (q_move rfl) ?_
      refine vh_q rfl rfl rfl rfl (q_nilCheck_ref rfl) ?_
      refine vh_q rfl rfl rfl rfl (q_fieldAddr_ref fl96_3 rfl) ?_
      refine vh_q rfl rfl rfl rfl (q_load_ref ty3 rfl rfl rfl) ?_
      refine vh_q rfl rfl rfl rfl (q_move rfl) ?_
      refine vh_q rfl rfl rfl rfl (q_nilCheck_ref rfl) ?_
      refine vh_q rfl rfl rfl rfl (q_fieldAddr_ref fl96_1 rfl) ?_
      refine vh_q rfl rfl rfl rfl (q_load_ref ty93 rfl rfl rfl) ?_
      refine vh_q rfl rfl rfl rfl (q_len_slA Tryd.underlying93 rfl) ?_
      refine vh_q rfl rfl rfl rfl (q_bin rfl rfl rfl) ?_
      refine vh_q rfl rfl rfl rfl (q_pick_f rfl rfl) ?_
      refine vh_q rfl rfl rfl rfl (q_move rfl) ?_
      refine vh_ite (t := 36) rfl h (fun hc6 h => ?_) (fun hc6 h => ?_)
      · refine vh_sk (sub_cuts (is := []) rfl) rfl rfl rfl ?_
        refine vh_sk (sub_cuts (is := []) rfl) rfl rfl rfl ?_
        refine vh_sk (sub_cuts (is := []) rfl) rfl rfl rfl ?_
        refine vh_sk (sub_cuts (is := []) rfl) rfl rfl rfl ?_
        refine vh_sk (sub_cuts (is := []) rfl) rfl rfl rfl ?_
        refine vh_sk (sub_cuts (is := []) rfl) rfl rfl rfl ?_
        refine vh_sk (sub_cuts (is := []) rfl) rfl rfl rfl ?_
        refine vh_sk (sub_cuts (is := []) rfl) rfl rfl rfl ?_
        refine vh_sk (sub_cuts (is := []) rfl) rfl rfl rfl ?_
        refine vh_sk (sub_cuts (is := []) rfl) rfl rfl rfl ?_
        refine vh_sk (sub_cuts (is := []) rfl) rfl rfl rfl ?_
        refine vh_sk (sub_cuts (is := []) rfl) rfl rfl rfl ?_
        refine vh_q rfl rfl rfl rfl (q_pick_t rfl rfl) ?_
        refine vh_nil ?_
        refine wmh_cond_t rfl ?_
        refine wmh_seq ?_
        refine wmh_region ?_
        refine wh_q rfl rfl (q_assign rfl) ?_
        refine wh_nil ?_
        refine wmh_ret ?_
        obtain rfl := (some_inj h).symm
        exact ⟨_, _, rh_one rfl rfl, sub_cuts (is := [0]) rfl, rfl, rfl⟩
      · refine vh_q rfl rfl rfl rfl (q_move rfl) ?_
        refine vh_q rfl rfl rfl rfl (q_nilCheck_ref rfl) ?_
        refine vh_q rfl rfl rfl rfl (q_fieldAddr_ref fl96_1 rfl) ?_
        refine vh_q rfl rfl rfl rfl (q_load_ref ty93 rfl rfl rfl) ?_
        refine vh_q rfl rfl rfl rfl (q_move rfl) ?_
        refine vh_q rfl rfl rfl rfl (q_nilCheck_ref rfl) ?_
        refine vh_q rfl rfl rfl rfl (q_fieldAddr_ref fl96_3 rfl) ?_
        refine vh_q rfl rfl rfl rfl (q_load_ref ty3 rfl rfl rfl) ?_
        obtain ⟨v3, hb7, h⟩ := obind h
        refine vh_q rfl rfl rfl rfl (q_index el93 rfl rfl hb7) ?_
        refine vh_q rfl rfl rfl rfl (q_fieldAddr_ref fl101_0 rfl) ?_
        refine vh_q rfl rfl rfl rfl (q_load_ref ty3 rfl rfl rfl) ?_
        refine vh_q rfl rfl rfl rfl (q_bin rfl rfl rfl) ?_
        refine vh_q rfl rfl rfl rfl (q_pick_f rfl rfl) ?_
        refine vh_nil ?_
        refine wmh_ite rfl h (fun hc8 h => ?_) (fun hc8 h => ?_)
        · refine wmh_seq ?_
          refine wmh_region ?_
          refine wh_q rfl rfl (q_assign rfl) ?_
          refine wh_nil ?_
          refine wmh_ret ?_
          obtain rfl := (some_inj h).symm
          exact ⟨_, _, rh_one rfl rfl, sub_cuts (is := [0]) rfl, rfl, rfl⟩
        · refine wmh_skip ?_
          refine wmh_seq ?_
          refine wmh_seq ?_
          refine wmh_region ?_
          refine wh_q rfl rfl (q_move rfl) ?_
          refine wh_q rfl rfl (q_nilCheck_ref rfl) ?_
          refine wh_q rfl rfl (q_fieldAddr_ref fl96_0 rfl) ?_
          refine wh_q rfl rfl (q_load_ref ty92 rfl rfl rfl) ?_
          refine wh_q rfl rfl (q_len_slA Tryd.underlying92 rfl) ?_
          refine wh_q rfl rfl (q_move rfl) ?_
          refine wh_nil ?_
          obtain ⟨rr18, hr18, h⟩ := obind h
          refine wmh_block ?_
          refine wmh_loopL (fun l s L H => match s with | _ => ∃ (j : Nat) (v4 : Int) , v4 = (j : Int) ∧ v1.tags.drop j = l ∧ Sub [(0, .ref (CCode.A v1) 0), (53, slA 4 CTag.A v1.tags), (54, iA (v1.tags.length : Int)), (55, iA v4)] L ∧ SubH [.frm τ] H) (fun r e L H => match r with | .go _ =>  e = .exit 0 ∧ Sub [(0, .ref (CCode.A v1) 0)] L ∧ SubH [.frm τ] H | .ret rv => e = .ret ∧ RetRel Tryd.prog Tryd.f43 174 (Ret1 (.sc (.bool rv)) [] τ) L H) hr18 ⟨0, 0, rfl, rfl, (sub_of ⟨rfl, rfl, rfl, rfl, trivial⟩), (sub_cuts (is := [0]) rfl)⟩ ?_ ?_
          · intro e L H hp
            obtain _ | rv := rr18
            · obtain ⟨rfl, hs, hh⟩ := hp
              refine wmh_sub hs hh ?_
              refine wmh_seq ?_
              refine wmh_seq ?_
              refine wmh_region ?_
              refine wh_q rfl rfl (q_move rfl) ?_
              refine wh_q rfl rfl (q_nilCheck_ref rfl) ?_
              refine wh_q rfl rfl (q_fieldAddr_ref fl96_1 rfl) ?_
              refine wh_q rfl rfl (q_load_ref ty93 rfl rfl rfl) ?_
              refine wh_q rfl rfl (q_len_slA Tryd.underlying93 rfl) ?_
              refine wh_q rfl rfl (q_move rfl) ?_
              refine wh_nil ?_
              obtain ⟨rr664, hr664, h⟩ := obind h
              refine wmh_block ?_
              refine wmh_loopL (fun l s L H => match s with | v10 => ∃ (j : Nat) , v10 = (j : Int) ∧ v1.funs.drop j = l ∧ Sub [(0, .ref (CCode.A v1) 0), (67, slA 3 CFun.A v1.funs), (68, iA (v1.funs.length : Int)), (69, iA v10)] L ∧ SubH [.frm τ] H) (fun r e L H => match r with | .go _ =>  e = .exit 2 ∧ Sub [] L ∧ SubH [.frm τ] H | .ret rv => e = .ret ∧ RetRel Tryd.prog Tryd.f43 174 (Ret1 (.sc (.bool rv)) [] τ) L H) hr664 ⟨0, rfl, rfl, (sub_of ⟨rfl, rfl, rfl, rfl, trivial⟩), (sub_cuts (is := [0]) rfl)⟩ ?_ ?_
              · intro e L H hp
                obtain _ | rv := rr664
                · obtain ⟨rfl, hs, hh⟩ := hp
                  refine wmh_sub hs hh ?_
                  refine wmh_seq ?_
                  refine wmh_region ?_
                  refine wh_q rfl rfl (q_assign rfl) ?_
                  refine wh_nil ?_
                  refine wmh_ret ?_
                  obtain rfl := (some_inj h).symm
                  exact ⟨_, _, rh_one rfl rfl, sub_cuts (is := [0]) rfl, rfl, rfl⟩
                · obtain ⟨rfl, hp⟩ := hp
                  obtain rfl := (some_inj h).symm
                  exact hp
              · rintro l v10 r h L H hp
                obtain ⟨j, hi, hd, hs, hh⟩ := hp
                refine wmh_sub hs hh ?_
                refine wmh_len (s := 67) rfl (fun hl => ?_)
                obtain _ | ⟨v96, l⟩ := l
                · have hj := drop_end hd
                  rw [l43_8.eq_1] at h
                  refine wmh_seq ?_
                  refine wmh_region ?_
                  refine wh_q rfl rfl (q_bin rfl rfl rfl) ?_
                  refine wh_nil ?_
                  refine wmh_seq ?_
                  refine wmh_cond rfl (fun hc => ?_) (fun hc => ?_)
                  · exfalso; have := of_decide_eq_true hc; omega
                  · refine wmh_exit ?_
                    obtain rfl := (some_inj h).symm
                    exact ⟨rfl, (sub_of trivial), (sub_cuts (is := [0]) rfl)⟩
                · obtain ⟨hat, hj, hd⟩ := at_drop hd
                  rw [← hi] at hat
                  rw [l43_8.eq_2] at h
                  refine wmh_seq ?_
                  refine wmh_region ?_
                  refine wh_q rfl rfl (q_bin rfl rfl rfl) ?_
                  refine wh_nil ?_
                  refine wmh_seq ?_
                  refine wmh_cond rfl (fun hc => ?_) (fun hc => ?_)
                  · refine wmh_skip ?_
                    refine wmh_seq ?_
                    refine wmh_block ?_
                    refine wmh_seq ?_
                    refine wmh_region ?_
                    refine wh_q rfl rfl (q_move rfl) ?_
                    refine wh_q rfl rfl (q_index el93 rfl rfl hat) ?_
                    refine wh_q rfl rfl (q_load_ref ty101 rfl rfl (pick_all rfl)) ?_
                    refine wh_l rfl rfl (oh_alloc (n := 3) (cs := [.sc (.int .i64 0), .sc (.int .i64 0), .sc (.int .i64 0)]) ze101 rfl rfl (fun k98 => ?_))
                    refine wh_q rfl rfl (q_assign rfl) ?_
                    refine wh_n rfl (oh_store (i := 0) [iA v96.params, iA v96.regs, iA v96.at_] ty101 rfl rfl rfl rfl rfl rfl rfl ?_)
                    refine wh_nil ?_
                    refine wmh_seq ?_
                    refine wmh_region ?_
                    refine wh_q rfl rfl (q_move rfl) ?_
                    refine wh_q rfl rfl (q_nilCheck_ref rfl) ?_
                    refine wh_q rfl rfl (q_fieldAddr_ref fl96_2 rfl) ?_
                    refine wh_q rfl rfl (q_load_ref ty94 rfl rfl rfl) ?_
                    refine wh_q rfl rfl (q_len_slA Tryd.underlying94 rfl) ?_
                    refine wh_q rfl rfl (q_assign rfl) ?_
                    refine wh_nil ?_
                    refine wmh_seq ?_
                    refine wmh_seq ?_
                    refine wmh_region ?_
                    refine wh_q rfl rfl (q_move rfl) ?_
                    refine wh_q rfl rfl (q_bin rfl rfl rfl) ?_
                    refine wh_q rfl rfl (q_move rfl) ?_
                    refine wh_q rfl rfl (q_nilCheck_ref rfl) ?_
                    refine wh_q rfl rfl (q_fieldAddr_ref fl96_1 rfl) ?_
                    refine wh_q rfl rfl (q_load_ref ty93 rfl rfl rfl) ?_
                    refine wh_q rfl rfl (q_len_slA Tryd.underlying93 rfl) ?_
                    refine wh_q rfl rfl (q_bin rfl rfl rfl) ?_
                    refine wh_nil ?_
                    refine wmh_ite rfl h (fun hc665 h => ?_) (fun hc665 h => ?_)
                    · refine wmh_region ?_
                      refine wh_q rfl rfl (q_move rfl) ?_
                      refine wh_q rfl rfl (q_nilCheck_ref rfl) ?_
                      refine wh_q rfl rfl (q_fieldAddr_ref fl96_1 rfl) ?_
                      refine wh_q rfl rfl (q_load_ref ty93 rfl rfl rfl) ?_
                      refine wh_q rfl rfl (q_move rfl) ?_
                      refine wh_q rfl rfl (q_bin rfl rfl rfl) ?_
                      obtain ⟨v100, hb667, h⟩ := obind h
                      refine wh_q rfl rfl (q_index el93 rfl rfl hb667) ?_
                      refine wh_q rfl rfl (q_fieldAddr_ref fl101_2 rfl) ?_
                      refine wh_q rfl rfl (q_load_ref ty3 rfl rfl rfl) ?_
                      refine wh_q rfl rfl (q_assign rfl) ?_
                      refine wh_nil ?_
                      obtain ⟨jr728, hx, hj728⟩ := obind h
                      refine wmh_join (ι := Int × Bool × Bool) (fun i L H => match i with | (v117, v118, v119) => jr728 = (.go (v117, v118, v119)) ∧ Sub [(0, .ref (CCode.A v1) 0), (6, .sc (.pointer (some ⟨k98, 0, none⟩))), (7, iA v100.at_), (67, slA 3 CFun.A v1.funs), (68, iA (v1.funs.length : Int)), (69, iA v10), (104, .sc (.pointer (some ⟨k98, 2, none⟩))), (105, iA v96.at_), (106, iA v100.at_), (107, .sc (.bool (decide (v100.at_ ≤ v96.at_)))), (110, iA v100.at_), (111, .ref (CCode.A v1) 0), (112, .ref (CCode.A v1) 0), (113, .ref (CCode.A v1) 2), (114, slA 8 CIns.A v1.ins), (115, iA (v1.ins.length : Int)), (116, .sc (.bool (decide ((v1.ins.length : Int) < v100.at_)))), (119, .sc (.pointer (some ⟨k98, 0, none⟩))), (120, iA v96.params), (121, .sc (.pointer (some ⟨k98, 1, none⟩))), (122, iA v96.regs), (123, .sc (.bool (decide (v96.regs < v96.params)))), (126, .sc (.pointer (some ⟨k98, 1, none⟩))), (127, iA v96.regs), (128, .sc (.pointer (some ⟨k98, 0, none⟩))), (129, iA v96.params), (130, iA v100.at_), (131, iA (i64 (v96.params + v100.at_))), (132, .sc (.pointer (some ⟨k98, 2, none⟩))), (133, iA v96.at_), (134, iA (i64 ((i64 (v96.params + v100.at_)) - v96.at_))), (135, .sc (.bool (decide ((i64 ((i64 (v96.params + v100.at_)) - v96.at_)) < v96.regs)))), (138, .ref (CCode.A v1) 0), (139, .ref (CCode.A v1) 0), (140, .ref (CCode.A v1) 2), (141, slA 8 CIns.A v1.ins), (142, iA v100.at_), (143, iA (i64 (v100.at_ - 1))), (146, iA v117), (147, .sc (.bool v118)), (148, .sc (.bool v119))] L ∧ SubH [.blk k98 (.cells 101 3 [iA v96.params, iA v96.regs, iA v96.at_]), .frm τ] H) ?_ ?_
                      · have h := hx
                        refine wmh_seq ?_
                        refine wmh_region ?_
                        refine wh_q rfl rfl (q_move rfl) ?_
                        refine wh_q rfl rfl (q_bin rfl rfl rfl) ?_
                        refine wh_q rfl rfl (q_move rfl) ?_
                        refine wh_ite (t := 98) rfl h (fun hc743 h => ?_) (fun hc743 h => ?_)
                        · refine wh_q rfl rfl (q_fieldAddr_own fl101_2 rfl) ?_
                          refine wh_q rfl rfl (q_load_own ty3 rfl (i := 0) rfl rfl) ?_
                          refine wh_q rfl rfl (q_bin rfl rfl rfl) ?_
                          refine wh_q rfl rfl (q_pick_t rfl rfl) ?_
                          refine wh_q rfl rfl (q_move rfl) ?_
                          refine wh_ite (t := 103) rfl h (fun hc744 h => ?_) (fun hc744 h => ?_)
                          · refine wh_sk rfl rfl ?_
                            refine wh_sk rfl rfl ?_
                            refine wh_sk rfl rfl ?_
                            refine wh_sk rfl rfl ?_
                            refine wh_q rfl rfl (q_pick_t rfl rfl) ?_
                            refine wh_q rfl rfl (q_move rfl) ?_
                            refine wh_sk rfl rfl ?_
                            refine wh_sk rfl rfl ?_
                            refine wh_sk rfl rfl ?_
                            refine wh_sk rfl rfl ?_
                            refine wh_sk rfl rfl ?_
                            refine wh_sk rfl rfl ?_
                            refine wh_sk rfl rfl ?_
                            refine wh_q rfl rfl (q_pick_t rfl rfl) ?_
                            refine wh_q rfl rfl (q_move rfl) ?_
                            refine wh_sk rfl rfl ?_
                            refine wh_sk rfl rfl ?_
                            refine wh_sk rfl rfl ?_
                            refine wh_sk rfl rfl ?_
                            refine wh_sk rfl rfl ?_
                            refine wh_q rfl rfl (q_pick_t rfl rfl) ?_
                            refine wh_q rfl rfl (q_move rfl) ?_
                            refine wh_sk rfl rfl ?_
                            refine wh_sk rfl rfl ?_
                            refine wh_sk rfl rfl ?_
                            refine wh_sk rfl rfl ?_
                            refine wh_sk rfl rfl ?_
                            refine wh_sk rfl rfl ?_
                            refine wh_sk rfl rfl ?_
                            refine wh_sk rfl rfl ?_
                            refine wh_sk rfl rfl ?_
                            refine wh_sk rfl rfl ?_
                            refine wh_q rfl rfl (q_pick_t rfl rfl) ?_
                            refine wh_q rfl rfl (q_move rfl) ?_
                            refine wh_sk rfl rfl ?_
                            refine wh_sk rfl rfl ?_
                            refine wh_sk rfl rfl ?_
                            refine wh_sk rfl rfl ?_
                            refine wh_sk rfl rfl ?_
                            refine wh_sk rfl rfl ?_
                            refine wh_sk rfl rfl ?_
                            refine wh_sk rfl rfl ?_
                            refine wh_sk rfl rfl ?_
                            refine wh_sk rfl rfl ?_
                            refine wh_sk rfl rfl ?_
                            refine wh_q rfl rfl (q_pick_t rfl rfl) ?_
                            refine wh_nil ?_
                            refine wmh_cond_t rfl ?_
                            refine wmh_seq ?_
                            refine wmh_region ?_
                            refine wh_q rfl rfl (q_assign rfl) ?_
                            refine wh_nil ?_
                            refine wmh_ret ?_
                            obtain ⟨rv, hv, e_⟩ := obind h; obtain rfl := (some_inj e_).symm; have h := hv.trans hj728
                            obtain rfl := (some_inj h).symm
                            exact ⟨rfl, _, _, rh_one rfl rfl, sub_cuts (is := [1]) rfl, rfl, rfl⟩
                          · refine wh_q rfl rfl (q_fieldAddr_own fl101_2 rfl) ?_
                            refine wh_q rfl rfl (q_load_own ty3 rfl (i := 0) rfl rfl) ?_
                            refine wh_q rfl rfl (q_move rfl) ?_
                            refine wh_q rfl rfl (q_bin rfl rfl rfl) ?_
                            refine wh_q rfl rfl (q_pick_f rfl rfl) ?_
                            refine wh_q rfl rfl (q_move rfl) ?_
                            refine wh_ite (t := 109) rfl h (fun hc745 h => ?_) (fun hc745 h => ?_)
                            · refine wh_sk rfl rfl ?_
                              refine wh_sk rfl rfl ?_
                              refine wh_sk rfl rfl ?_
                              refine wh_sk rfl rfl ?_
                              refine wh_sk rfl rfl ?_
                              refine wh_sk rfl rfl ?_
                              refine wh_sk rfl rfl ?_
                              refine wh_q rfl rfl (q_pick_t rfl rfl) ?_
                              refine wh_q rfl rfl (q_move rfl) ?_
                              refine wh_sk rfl rfl ?_
                              refine wh_sk rfl rfl ?_
                              refine wh_sk rfl rfl ?_
                              refine wh_sk rfl rfl ?_
                              refine wh_sk rfl rfl ?_
                              refine wh_q rfl rfl (q_pick_t rfl rfl) ?_
                              refine wh_q rfl rfl (q_move rfl) ?_
                              refine wh_sk rfl rfl ?_
                              refine wh_sk rfl rfl ?_
                              refine wh_sk rfl rfl ?_
                              refine wh_sk rfl rfl ?_
                              refine wh_sk rfl rfl ?_
                              refine wh_sk rfl rfl ?_
                              refine wh_sk rfl rfl ?_
                              refine wh_sk rfl rfl ?_
                              refine wh_sk rfl rfl ?_
                              refine wh_sk rfl rfl ?_
                              refine wh_q rfl rfl (q_pick_t rfl rfl) ?_
                              refine wh_q rfl rfl (q_move rfl) ?_
                              refine wh_sk rfl rfl ?_
                              refine wh_sk rfl rfl ?_
                              refine wh_sk rfl rfl ?_
                              refine wh_sk rfl rfl ?_
                              refine wh_sk rfl rfl ?_
                              refine wh_sk rfl rfl ?_
                              refine wh_sk rfl rfl ?_
                              refine wh_sk rfl rfl ?_
                              refine wh_sk rfl rfl ?_
                              refine wh_sk rfl rfl ?_
                              refine wh_sk rfl rfl ?_
                              refine wh_q rfl rfl (q_pick_t rfl rfl) ?_
                              refine wh_nil ?_
                              refine wmh_cond_t rfl ?_
                              refine wmh_seq ?_
                              refine wmh_region ?_
                              refine wh_q rfl rfl (q_assign rfl) ?_
                              refine wh_nil ?_
                              refine wmh_ret ?_
                              obtain ⟨rv, hv, e_⟩ := obind h; obtain rfl := (some_inj e_).symm; have h := hv.trans hj728
                              obtain rfl := (some_inj h).symm
                              exact ⟨rfl, _, _, rh_one rfl rfl, sub_cuts (is := [1]) rfl, rfl, rfl⟩
                            · refine wh_q rfl rfl (q_move rfl) ?_
                              refine wh_q rfl rfl (q_move rfl) ?_
                              refine wh_q rfl rfl (q_nilCheck_ref rfl) ?_
                              refine wh_q rfl rfl (q_fieldAddr_ref fl96_2 rfl) ?_
                              refine wh_q rfl rfl (q_load_ref ty94 rfl rfl rfl) ?_
                              refine wh_q rfl rfl (q_len_slA Tryd.underlying94 rfl) ?_
                              refine wh_q rfl rfl (q_bin rfl rfl rfl) ?_
                              refine wh_q rfl rfl (q_pick_f rfl rfl) ?_
                              refine wh_q rfl rfl (q_move rfl) ?_
                              refine wh_ite (t := 118) rfl h (fun hc746 h => ?_) (fun hc746 h => ?_)
                              · refine wh_sk rfl rfl ?_
                                refine wh_sk rfl rfl ?_
                                refine wh_sk rfl rfl ?_
                                refine wh_sk rfl rfl ?_
                                refine wh_sk rfl rfl ?_
                                refine wh_q rfl rfl (q_pick_t rfl rfl) ?_
                                refine wh_q rfl rfl (q_move rfl) ?_
                                refine wh_sk rfl rfl ?_
                                refine wh_sk rfl rfl ?_
                                refine wh_sk rfl rfl ?_
                                refine wh_sk rfl rfl ?_
                                refine wh_sk rfl rfl ?_
                                refine wh_sk rfl rfl ?_
                                refine wh_sk rfl rfl ?_
                                refine wh_sk rfl rfl ?_
                                refine wh_sk rfl rfl ?_
                                refine wh_sk rfl rfl ?_
                                refine wh_q rfl rfl (q_pick_t rfl rfl) ?_
                                refine wh_q rfl rfl (q_move rfl) ?_
                                refine wh_sk rfl rfl ?_
                                refine wh_sk rfl rfl ?_
                                refine wh_sk rfl rfl ?_
                                refine wh_sk rfl rfl ?_
                                refine wh_sk rfl rfl ?_
                                refine wh_sk rfl rfl ?_
                                refine wh_sk rfl rfl ?_
                                refine wh_sk rfl rfl ?_
                                refine wh_sk rfl rfl ?_
                                refine wh_sk rfl rfl ?_
                                refine wh_sk rfl rfl ?_
                                refine wh_q rfl rfl (q_pick_t rfl rfl) ?_
                                refine wh_nil ?_
                                refine wmh_cond_t rfl ?_
                                refine wmh_seq ?_
                                refine wmh_region ?_
                                refine wh_q rfl rfl (q_assign rfl) ?_
                                refine wh_nil ?_
                                refine wmh_ret ?_
                                obtain ⟨rv, hv, e_⟩ := obind h; obtain rfl := (some_inj e_).symm; have h := hv.trans hj728
                                obtain rfl := (some_inj h).symm
                                exact ⟨rfl, _, _, rh_one rfl rfl, sub_cuts (is := [1]) rfl, rfl, rfl⟩
                              · refine wh_q rfl rfl (q_fieldAddr_own fl101_0 rfl) ?_
                                refine wh_q rfl rfl (q_load_own ty3 rfl (i := 0) rfl rfl) ?_
                                refine wh_q rfl rfl (q_fieldAddr_own fl101_1 rfl) ?_
                                refine wh_q rfl rfl (q_load_own ty3 rfl (i := 0) rfl rfl) ?_
                                refine wh_q rfl rfl (q_bin rfl rfl rfl) ?_
                                refine wh_q rfl rfl (q_pick_f rfl rfl) ?_
                                refine wh_q rfl rfl (q_move rfl) ?_
                                refine wh_ite (t := 125) rfl h (fun hc747 h => ?_) (fun hc747 h => ?_)
                                · refine wh_sk rfl rfl ?_
                                  refine wh_sk rfl rfl ?_
                                  refine wh_sk rfl rfl ?_
                                  refine wh_sk rfl rfl ?_
                                  refine wh_sk rfl rfl ?_
                                  refine wh_sk rfl rfl ?_
                                  refine wh_sk rfl rfl ?_
                                  refine wh_sk rfl rfl ?_
                                  refine wh_sk rfl rfl ?_
                                  refine wh_sk rfl rfl ?_
                                  refine wh_q rfl rfl (q_pick_t rfl rfl) ?_
                                  refine wh_q rfl rfl (q_move rfl) ?_
                                  refine wh_sk rfl rfl ?_
                                  refine wh_sk rfl rfl ?_
                                  refine wh_sk rfl rfl ?_
                                  refine wh_sk rfl rfl ?_
                                  refine wh_sk rfl rfl ?_
                                  refine wh_sk rfl rfl ?_
                                  refine wh_sk rfl rfl ?_
                                  refine wh_sk rfl rfl ?_
                                  refine wh_sk rfl rfl ?_
                                  refine wh_sk rfl rfl ?_
                                  refine wh_sk rfl rfl ?_
                                  refine wh_q rfl rfl (q_pick_t rfl rfl) ?_
                                  refine wh_nil ?_
                                  refine wmh_cond_t rfl ?_
                                  refine wmh_seq ?_
                                  refine wmh_region ?_
                                  refine wh_q rfl rfl (q_assign rfl) ?_
                                  refine wh_nil ?_
                                  refine wmh_ret ?_
                                  obtain ⟨rv, hv, e_⟩ := obind h; obtain rfl := (some_inj e_).symm; have h := hv.trans hj728
                                  obtain rfl := (some_inj h).symm
                                  exact ⟨rfl, _, _, rh_one rfl rfl, sub_cuts (is := [1]) rfl, rfl, rfl⟩
                                · refine wh_q rfl rfl (q_fieldAddr_own fl101_1 rfl) ?_
                                  refine wh_q rfl rfl (q_load_own ty3 rfl (i := 0) rfl rfl) ?_
                                  refine wh_q rfl rfl (q_fieldAddr_own fl101_0 rfl) ?_
                                  refine wh_q rfl rfl (q_load_own ty3 rfl (i := 0) rfl rfl) ?_
                                  refine wh_q rfl rfl (q_move rfl) ?_
                                  refine wh_q rfl rfl (q_bin rfl rfl rfl) ?_
                                  refine wh_q rfl rfl (q_fieldAddr_own fl101_2 rfl) ?_
                                  refine wh_q rfl rfl (q_load_own ty3 rfl (i := 0) rfl rfl) ?_
                                  refine wh_q rfl rfl (q_bin rfl rfl rfl) ?_
                                  refine wh_q rfl rfl (q_bin rfl rfl rfl) ?_
                                  refine wh_q rfl rfl (q_pick_f rfl rfl) ?_
                                  refine wh_q rfl rfl (q_move rfl) ?_
                                  refine wh_ite (t := 137) rfl h (fun hc748 h => ?_) (fun hc748 h => ?_)
                                  · refine wh_sk rfl rfl ?_
                                    refine wh_sk rfl rfl ?_
                                    refine wh_sk rfl rfl ?_
                                    refine wh_sk rfl rfl ?_
                                    refine wh_sk rfl rfl ?_
                                    refine wh_sk rfl rfl ?_
                                    refine wh_sk rfl rfl ?_
                                    refine wh_sk rfl rfl ?_
                                    refine wh_sk rfl rfl ?_
                                    refine wh_sk rfl rfl ?_
                                    refine wh_sk rfl rfl ?_
                                    refine wh_q rfl rfl (q_pick_t rfl rfl) ?_
                                    refine wh_nil ?_
                                    refine wmh_cond_t rfl ?_
                                    refine wmh_seq ?_
                                    refine wmh_region ?_
                                    refine wh_q rfl rfl (q_assign rfl) ?_
                                    refine wh_nil ?_
                                    refine wmh_ret ?_
                                    obtain ⟨rv, hv, e_⟩ := obind h; obtain rfl := (some_inj e_).symm; have h := hv.trans hj728
                                    obtain rfl := (some_inj h).symm
                                    exact ⟨rfl, _, _, rh_one rfl rfl, sub_cuts (is := [1]) rfl, rfl, rfl⟩
                                  · refine wh_q rfl rfl (q_move rfl) ?_
                                    refine wh_q rfl rfl (q_nilCheck_ref rfl) ?_
                                    refine wh_q rfl rfl (q_fieldAddr_ref fl96_2 rfl) ?_
                                    refine wh_q rfl rfl (q_load_ref ty94 rfl rfl rfl) ?_
                                    refine wh_q rfl rfl (q_move rfl) ?_
                                    refine wh_q rfl rfl (q_bin rfl rfl rfl) ?_
                                    obtain ⟨v124, hb749, h⟩ := obind h
                                    refine wh_q rfl rfl (q_index el94 rfl rfl hb749) ?_
                                    refine wh_q rfl rfl (q_fieldAddr_ref fl105_0 rfl) ?_
                                    refine wh_q rfl rfl (q_load_ref ty3 rfl rfl rfl) ?_
                                    obtain ⟨v125, hb750, h⟩ := obind h
                                    refine wh_l rfl rfl (oh_call1 [] fn86 rfl rfl (fun τ hτ => c86 hb750 τ) ?_)
                                    refine wh_q rfl rfl (q_not rfl) ?_
                                    refine wh_q rfl rfl (q_pick_f rfl rfl) ?_
                                    refine wh_nil ?_
                                    refine wmh_ite rfl h (fun hc751 h => ?_) (fun hc751 h => ?_)
                                    · refine wmh_seq ?_
                                      refine wmh_region ?_
                                      refine wh_q rfl rfl (q_assign rfl) ?_
                                      refine wh_nil ?_
                                      refine wmh_ret ?_
                                      obtain ⟨rv, hv, e_⟩ := obind h; obtain rfl := (some_inj e_).symm; have h := hv.trans hj728
                                      obtain rfl := (some_inj h).symm
                                      exact ⟨rfl, _, _, rh_one rfl rfl, sub_cuts (is := [1]) rfl, rfl, rfl⟩
                                    · refine wmh_skip ?_
                                      obtain rfl := (some_inj h).symm
                                      exact ⟨(v124.op, v125, (!v125)), rfl, (sub_of ⟨rfl, rfl, rfl, rfl, rfl, rfl, rfl, rfl, rfl, rfl, rfl, rfl, rfl, rfl, rfl, rfl, rfl, rfl, rfl, rfl, rfl, rfl, rfl, rfl, rfl, rfl, rfl, rfl, rfl, rfl, rfl, rfl, rfl, rfl, rfl, rfl, rfl, rfl, rfl, rfl, rfl, trivial⟩), (sub_cuts (is := [0, 0]) rfl)⟩
                        · refine wh_sk rfl rfl ?_
                          refine wh_sk rfl rfl ?_
                          refine wh_sk rfl rfl ?_
                          refine wh_q rfl rfl (q_pick_f rfl rfl) ?_
                          refine wh_q rfl rfl (q_move rfl) ?_
                          refine wh_q rfl rfl (q_fieldAddr_own fl101_2 rfl) ?_
                          refine wh_q rfl rfl (q_load_own ty3 rfl (i := 0) rfl rfl) ?_
                          refine wh_q rfl rfl (q_move rfl) ?_
                          refine wh_q rfl rfl (q_bin rfl rfl rfl) ?_
                          refine wh_q rfl rfl (q_pick_f rfl rfl) ?_
                          refine wh_q rfl rfl (q_move rfl) ?_
                          refine wh_ite (t := 109) rfl h (fun hc752 h => ?_) (fun hc752 h => ?_)
                          · refine wh_sk rfl rfl ?_
                            refine wh_sk rfl rfl ?_
                            refine wh_sk rfl rfl ?_
                            refine wh_sk rfl rfl ?_
                            refine wh_sk rfl rfl ?_
                            refine wh_sk rfl rfl ?_
                            refine wh_sk rfl rfl ?_
                            refine wh_q rfl rfl (q_pick_t rfl rfl) ?_
                            refine wh_q rfl rfl (q_move rfl) ?_
                            refine wh_sk rfl rfl ?_
                            refine wh_sk rfl rfl ?_
                            refine wh_sk rfl rfl ?_
                            refine wh_sk rfl rfl ?_
                            refine wh_sk rfl rfl ?_
                            refine wh_q rfl rfl (q_pick_t rfl rfl) ?_
                            refine wh_q rfl rfl (q_move rfl) ?_
                            refine wh_sk rfl rfl ?_
                            refine wh_sk rfl rfl ?_
                            refine wh_sk rfl rfl ?_
                            refine wh_sk rfl rfl ?_
                            refine wh_sk rfl rfl ?_
                            refine wh_sk rfl rfl ?_
                            refine wh_sk rfl rfl ?_
                            refine wh_sk rfl rfl ?_
                            refine wh_sk rfl rfl ?_
                            refine wh_sk rfl rfl ?_
                            refine wh_q rfl rfl (q_pick_t rfl rfl) ?_
                            refine wh_q rfl rfl (q_move rfl) ?_
                            refine wh_sk rfl rfl ?_
                            refine wh_sk rfl rfl ?_
                            refine wh_sk rfl rfl ?_
                            refine wh_sk rfl rfl ?_
                            refine wh_sk rfl rfl ?_
                            refine wh_sk rfl rfl ?_
                            refine wh_sk rfl rfl ?_
                            refine wh_sk rfl rfl ?_
                            refine wh_sk rfl rfl ?_
                            refine wh_sk rfl rfl ?_
                            refine wh_sk rfl rfl ?_
                            refine wh_q rfl rfl (q_pick_t rfl rfl) ?_
                            refine wh_nil ?_
                            refine wmh_cond_t rfl ?_
                            refine wmh_seq ?_
                            refine wmh_region ?_
                            refine wh_q rfl rfl (q_assign rfl) ?_
                            refine wh_nil ?_
                            refine wmh_ret ?_
                            obtain ⟨rv, hv, e_⟩ := obind h; obtain rfl := (some_inj e_).symm; have h := hv.trans hj728
                            obtain rfl := (some_inj h).symm
                            exact ⟨rfl, _, _, rh_one rfl rfl, sub_cuts (is := [1]) rfl, rfl, rfl⟩
                          · refine wh_q rfl rfl (q_move rfl) ?_
                            refine wh_q rfl rfl (q_move rfl) ?_
                            refine wh_q rfl rfl (q_nilCheck_ref rfl) ?_
                            refine wh_q rfl rfl (q_fieldAddr_ref fl96_2 rfl) ?_
                            refine wh_q rfl rfl (q_load_ref ty94 rfl rfl rfl) ?_
                            refine wh_q rfl rfl (q_len_slA Tryd.underlying94 rfl) ?_
                            refine wh_q rfl rfl (q_bin rfl rfl rfl) ?_
                            refine wh_q rfl rfl (q_pick_f rfl rfl) ?_
                            refine wh_q rfl rfl (q_move rfl) ?_
                            refine wh_ite (t := 118) rfl h (fun hc753 h => ?_) (fun hc753 h => ?_)
                            · refine wh_sk rfl rfl ?_
                              refine wh_sk rfl rfl ?_
                              refine wh_sk rfl rfl ?_
                              refine wh_sk rfl rfl ?_
                              refine wh_sk rfl rfl ?_
                              refine wh_q rfl rfl (q_pick_t rfl rfl) ?_
                              refine wh_q rfl rfl (q_move rfl) ?_
                              refine wh_sk rfl rfl ?_
                              refine wh_sk rfl rfl ?_
                              refine wh_sk rfl rfl ?_
                              refine wh_sk rfl rfl ?_
                              refine wh_sk rfl rfl ?_
                              refine wh_sk rfl rfl ?_
                              refine wh_sk rfl rfl ?_
                              refine wh_sk rfl rfl ?_
                              refine wh_sk rfl rfl ?_
                              refine wh_sk rfl rfl ?_
                              refine wh_q rfl rfl (q_pick_t rfl rfl) ?_
                              refine wh_q rfl rfl (q_move rfl) ?_
                              refine wh_sk rfl rfl ?_
                              refine wh_sk rfl rfl ?_
                              refine wh_sk rfl rfl ?_
                              refine wh_sk rfl rfl ?_
                              refine wh_sk rfl rfl ?_
                              refine wh_sk rfl rfl ?_
                              refine wh_sk rfl rfl ?_
                              refine wh_sk rfl rfl ?_
                              refine wh_sk rfl rfl ?_
                              refine wh_sk rfl rfl ?_
                              refine wh_sk rfl rfl ?_
                              refine wh_q rfl rfl (q_pick_t rfl rfl) ?_
                              refine wh_nil ?_
                              refine wmh_cond_t rfl ?_
                              refine wmh_seq ?_
                              refine wmh_region ?_
                              refine wh_q rfl rfl (q_assign rfl) ?_
                              refine wh_nil ?_
                              refine wmh_ret ?_
                              obtain ⟨rv, hv, e_⟩ := obind h; obtain rfl := (some_inj e_).symm; have h := hv.trans hj728
                              obtain rfl := (some_inj h).symm
                              exact ⟨rfl, _, _, rh_one rfl rfl, sub_cuts (is := [1]) rfl, rfl, rfl⟩
                            · refine wh_q rfl rfl (q_fieldAddr_own fl101_0 rfl) ?_
                              refine wh_q rfl rfl (q_load_own ty3 rfl (i := 0) rfl rfl) ?_
                              refine wh_q rfl rfl (q_fieldAddr_own fl101_1 rfl) ?_
                              refine wh_q rfl rfl (q_load_own ty3 rfl (i := 0) rfl rfl) ?_
                              refine wh_q rfl rfl (q_bin rfl rfl rfl) ?_
                              refine wh_q rfl rfl (q_pick_f rfl rfl) ?_
                              refine wh_q rfl rfl (q_move rfl) ?_
                              refine wh_ite (t := 125) rfl h (fun hc754 h => ?_) (fun hc754 h => ?_)
                              · refine wh_sk rfl rfl ?_
                                refine wh_sk rfl rfl ?_
                                refine wh_sk rfl rfl ?_
                                refine wh_sk rfl rfl ?_
                                refine wh_sk rfl rfl ?_
                                refine wh_sk rfl rfl ?_
                                refine wh_sk rfl rfl ?_
                                refine wh_sk rfl rfl ?_
                                refine wh_sk rfl rfl ?_
                                refine wh_sk rfl rfl ?_
                                refine wh_q rfl rfl (q_pick_t rfl rfl) ?_
                                refine wh_q rfl rfl (q_move rfl) ?_
                                refine wh_sk rfl rfl ?_
                                refine wh_sk rfl rfl ?_
                                refine wh_sk rfl rfl ?_
                                refine wh_sk rfl rfl ?_
                                refine wh_sk rfl rfl ?_
                                refine wh_sk rfl rfl ?_
                                refine wh_sk rfl rfl ?_
                                refine wh_sk rfl rfl ?_
                                refine wh_sk rfl rfl ?_
                                refine wh_sk rfl rfl ?_
                                refine wh_sk rfl rfl ?_
                                refine wh_q rfl rfl (q_pick_t rfl rfl) ?_
                                refine wh_nil ?_
                                refine wmh_cond_t rfl ?_
                                refine wmh_seq ?_
                                refine wmh_region ?_
                                refine wh_q rfl rfl (q_assign rfl) ?_
                                refine wh_nil ?_
                                refine wmh_ret ?_
                                obtain ⟨rv, hv, e_⟩ := obind h; obtain rfl := (some_inj e_).symm; have h := hv.trans hj728
                                obtain rfl := (some_inj h).symm
                                exact ⟨rfl, _, _, rh_one rfl rfl, sub_cuts (is := [1]) rfl, rfl, rfl⟩
                              · refine wh_q rfl rfl (q_fieldAddr_own fl101_1 rfl) ?_
                                refine wh_q rfl rfl (q_load_own ty3 rfl (i := 0) rfl rfl) ?_
                                refine wh_q rfl rfl (q_fieldAddr_own fl101_0 rfl) ?_
                                refine wh_q rfl rfl (q_load_own ty3 rfl (i := 0) rfl rfl) ?_
                                refine wh_q rfl rfl (q_move rfl) ?_
                                refine wh_q rfl rfl (q_bin rfl rfl rfl) ?_
                                refine wh_q rfl rfl (q_fieldAddr_own fl101_2 rfl) ?_
                                refine wh_q rfl rfl (q_load_own ty3 rfl (i := 0) rfl rfl) ?_
                                refine wh_q rfl rfl (q_bin rfl rfl rfl) ?_
                                refine wh_q rfl rfl (q_bin rfl rfl rfl) ?_
                                refine wh_q rfl rfl (q_pick_f rfl rfl) ?_
                                refine wh_q rfl rfl (q_move rfl) ?_
                                refine wh_ite (t := 137) rfl h (fun hc755 h => ?_) (fun hc755 h => ?_)
                                · refine wh_sk rfl rfl ?_
                                  refine wh_sk rfl rfl ?_
                                  refine wh_sk rfl rfl ?_
                                  refine wh_sk rfl rfl ?_
                                  refine wh_sk rfl rfl ?_
                                  refine wh_sk rfl rfl ?_
                                  refine wh_sk rfl rfl ?_
                                  refine wh_sk rfl rfl ?_
                                  refine wh_sk rfl rfl ?_
                                  refine wh_sk rfl rfl ?_
                                  refine wh_sk rfl rfl ?_
                                  refine wh_q rfl rfl (q_pick_t rfl rfl) ?_
                                  refine wh_nil ?_
                                  refine wmh_cond_t rfl ?_
                                  refine wmh_seq ?_
                                  refine wmh_region ?_
                                  refine wh_q rfl rfl (q_assign rfl) ?_
                                  refine wh_nil ?_
                                  refine wmh_ret ?_
                                  obtain ⟨rv, hv, e_⟩ := obind h; obtain rfl := (some_inj e_).symm; have h := hv.trans hj728
                                  obtain rfl := (some_inj h).symm
                                  exact ⟨rfl, _, _, rh_one rfl rfl, sub_cuts (is := [1]) rfl, rfl, rfl⟩
                                · refine wh_q rfl rfl (q_move rfl) ?_
                                  refine wh_q rfl rfl (q_nilCheck_ref rfl) ?_
                                  refine wh_q rfl rfl (q_fieldAddr_ref fl96_2 rfl) ?_
                                  refine wh_q rfl rfl (q_load_ref ty94 rfl rfl rfl) ?_
                                  refine wh_q rfl rfl (q_move rfl) ?_
                                  refine wh_q rfl rfl (q_bin rfl rfl rfl) ?_
                                  obtain ⟨v126, hb756, h⟩ := obind h
                                  refine wh_q rfl rfl (q_index el94 rfl rfl hb756) ?_
                                  refine wh_q rfl rfl (q_fieldAddr_ref fl105_0 rfl) ?_
                                  refine wh_q rfl rfl (q_load_ref ty3 rfl rfl rfl) ?_
                                  obtain ⟨v127, hb757, h⟩ := obind h
                                  refine wh_l rfl rfl (oh_call1 [] fn86 rfl rfl (fun τ hτ => c86 hb757 τ) ?_)
                                  refine wh_q rfl rfl (q_not rfl) ?_
                                  refine wh_q rfl rfl (q_pick_f rfl rfl) ?_
                                  refine wh_nil ?_
                                  refine wmh_ite rfl h (fun hc758 h => ?_) (fun hc758 h => ?_)
                                  · refine wmh_seq ?_
                                    refine wmh_region ?_
                                    refine wh_q rfl rfl (q_assign rfl) ?_
                                    refine wh_nil ?_
                                    refine wmh_ret ?_
                                    obtain ⟨rv, hv, e_⟩ := obind h; obtain rfl := (some_inj e_).symm; have h := hv.trans hj728
                                    obtain rfl := (some_inj h).symm
                                    exact ⟨rfl, _, _, rh_one rfl rfl, sub_cuts (is := [1]) rfl, rfl, rfl⟩
                                  · refine wmh_skip ?_
                                    obtain rfl := (some_inj h).symm
                                    exact ⟨(v126.op, v127, (!v127)), rfl, (sub_of ⟨rfl, rfl, rfl, rfl, rfl, rfl, rfl, rfl, rfl, rfl, rfl, rfl, rfl, rfl, rfl, rfl, rfl, rfl, rfl, rfl, rfl, rfl, rfl, rfl, rfl, rfl, rfl, rfl, rfl, rfl, rfl, rfl, rfl, rfl, rfl, rfl, rfl, rfl, rfl, rfl, rfl, trivial⟩), (sub_cuts (is := [0, 0]) rfl)⟩
                      · rintro ⟨v117, v118, v119⟩ L H hp
                        obtain ⟨rfl, hs, hh⟩ := hp
                        have h := hj728
                        refine wmh_sub hs hh ?_
                        refine wmh_seq ?_
                        refine wmh_drawn _ [] [0, 1, 2, 3, 4, 5, 6, 7, 8, 9] mixed (by kernel_rfl) (sub_cuts (is := [0]) rfl) ?_
                        refine vh_q rfl rfl rfl rfl (q_move rfl) ?_
                        refine vh_q rfl rfl rfl rfl (q_nilCheck_ref rfl) ?_
                        refine vh_q rfl rfl rfl rfl (q_fieldAddr_ref fl96_2 rfl) ?_
                        refine vh_q rfl rfl rfl rfl (q_load_ref ty94 rfl rfl rfl) ?_
                        refine vh_q rfl rfl rfl rfl (q_fieldAddr_own fl101_2 rfl) ?_
                        refine vh_q rfl rfl rfl rfl (q_load_own ty3 rfl (i := 0) rfl rfl) ?_
                        refine vh_q rfl rfl rfl rfl (q_move rfl) ?_
                        obtain ⟨v129, hb760, h⟩ := obind h
                        refine vh_q rfl rfl rfl rfl (q_slice_slA el94 rfl rfl rfl hb760) ?_
                        refine vh_q rfl rfl rfl rfl (q_len_slA Tryd.underlying94 rfl) ?_
                        refine vh_q rfl rfl rfl rfl (q_move rfl) ?_
                        refine vh_nil ?_
                        obtain ⟨rr770, hr770, h⟩ := obind h
                        refine wmh_block ?_
                        refine wmh_loopL (fun l s L H => match s with | _ => ∃ (j : Nat) (v130 : Int) , v130 = (j : Int) ∧ v129.drop j = l ∧ Sub [(0, .ref (CCode.A v1) 0), (6, .sc (.pointer (some ⟨k98, 0, none⟩))), (7, iA v100.at_), (67, slA 3 CFun.A v1.funs), (68, iA (v1.funs.length : Int)), (69, iA v10), (104, .sc (.pointer (some ⟨k98, 2, none⟩))), (105, iA v96.at_), (106, iA v100.at_), (107, .sc (.bool (decide (v100.at_ ≤ v96.at_)))), (110, iA v100.at_), (111, .ref (CCode.A v1) 0), (112, .ref (CCode.A v1) 0), (113, .ref (CCode.A v1) 2), (114, slA 8 CIns.A v1.ins), (115, iA (v1.ins.length : Int)), (116, .sc (.bool (decide ((v1.ins.length : Int) < v100.at_)))), (119, .sc (.pointer (some ⟨k98, 0, none⟩))), (120, iA v96.params), (121, .sc (.pointer (some ⟨k98, 1, none⟩))), (122, iA v96.regs), (123, .sc (.bool (decide (v96.regs < v96.params)))), (126, .sc (.pointer (some ⟨k98, 1, none⟩))), (127, iA v96.regs), (128, .sc (.pointer (some ⟨k98, 0, none⟩))), (129, iA v96.params), (130, iA v100.at_), (131, iA (i64 (v96.params + v100.at_))), (132, .sc (.pointer (some ⟨k98, 2, none⟩))), (133, iA v96.at_), (134, iA (i64 ((i64 (v96.params + v100.at_)) - v96.at_))), (135, .sc (.bool (decide ((i64 ((i64 (v96.params + v100.at_)) - v96.at_)) < v96.regs)))), (138, .ref (CCode.A v1) 0), (139, .ref (CCode.A v1) 0), (140, .ref (CCode.A v1) 2), (141, slA 8 CIns.A v1.ins), (142, iA v100.at_), (143, iA (i64 (v100.at_ - 1))), (146, iA v117), (147, .sc (.bool v118)), (148, .sc (.bool v119)), (157, slA 8 CIns.A v129), (158, iA (v129.length : Int)), (159, iA v130)] L ∧ SubH [.blk k98 (.cells 101 3 [iA v96.params, iA v96.regs, iA v96.at_]), .frm τ] H) (fun r e L H => match r with | .go _ =>  e = .exit 4 ∧ Sub [(0, .ref (CCode.A v1) 0), (67, slA 3 CFun.A v1.funs), (68, iA (v1.funs.length : Int)), (69, iA v10), (104, .sc (.pointer (some ⟨k98, 2, none⟩))), (105, iA v96.at_), (106, iA v100.at_), (107, .sc (.bool (decide (v100.at_ ≤ v96.at_)))), (110, iA v100.at_), (111, .ref (CCode.A v1) 0), (112, .ref (CCode.A v1) 0), (113, .ref (CCode.A v1) 2), (114, slA 8 CIns.A v1.ins), (115, iA (v1.ins.length : Int)), (116, .sc (.bool (decide ((v1.ins.length : Int) < v100.at_)))), (119, .sc (.pointer (some ⟨k98, 0, none⟩))), (120, iA v96.params), (121, .sc (.pointer (some ⟨k98, 1, none⟩))), (122, iA v96.regs), (123, .sc (.bool (decide (v96.regs < v96.params)))), (126, .sc (.pointer (some ⟨k98, 1, none⟩))), (127, iA v96.regs), (128, .sc (.pointer (some ⟨k98, 0, none⟩))), (129, iA v96.params), (130, iA v100.at_), (131, iA (i64 (v96.params + v100.at_))), (132, .sc (.pointer (some ⟨k98, 2, none⟩))), (133, iA v96.at_), (134, iA (i64 ((i64 (v96.params + v100.at_)) - v96.at_))), (135, .sc (.bool (decide ((i64 ((i64 (v96.params + v100.at_)) - v96.at_)) < v96.regs)))), (138, .ref (CCode.A v1) 0), (139, .ref (CCode.A v1) 0), (140, .ref (CCode.A v1) 2), (141, slA 8 CIns.A v1.ins), (142, iA v100.at_), (143, iA (i64 (v100.at_ - 1))), (146, iA v117), (147, .sc (.bool v118)), (148, .sc (.bool v119))] L ∧ SubH [.blk k98 (.cells 101 3 [iA v96.params, iA v96.regs, iA v96.at_]), .frm τ] H | .ret rv => e = .ret ∧ RetRel Tryd.prog Tryd.f43 174 (Ret1 (.sc (.bool rv)) [] τ) L H) hr770 ⟨0, 0, rfl, rfl, (sub_of ⟨rfl, rfl, rfl, rfl, rfl, rfl, rfl, rfl, rfl, rfl, rfl, rfl, rfl, rfl, rfl, rfl, rfl, rfl, rfl, rfl, rfl, rfl, rfl, rfl, rfl, rfl, rfl, rfl, rfl, rfl, rfl, rfl, rfl, rfl, rfl, rfl, rfl, rfl, rfl, rfl, rfl, rfl, rfl, rfl, trivial⟩), (sub_cuts (is := [0, 0]) rfl)⟩ ?_ ?_
                        · intro e L H hp
                          obtain _ | rv := rr770
                          · obtain ⟨rfl, hs, hh⟩ := hp
                            refine wmh_sub hs hh ?_
                            refine wmh_region ?_
                            refine wh_q rfl rfl (q_add1 rfl rfl (by omega)) ?_
                            refine wh_q rfl rfl (q_move rfl) ?_
                            refine wh_nil ?_
                            exact ⟨_, _, (v10 + 1), rfl, h, j + 1, (by omega), hd, (sub_of ⟨rfl, rfl, rfl, rfl, trivial⟩), (sub_cuts (is := [1]) rfl)⟩
                          · obtain ⟨rfl, hp⟩ := hp
                            obtain rfl := (some_inj h).symm
                            exact ⟨rfl, hp⟩
                        · rintro l _ r h L H hp
                          obtain ⟨j, v130, hi, hd, hs, hh⟩ := hp
                          refine wmh_sub hs hh ?_
                          refine wmh_len (s := 157) rfl (fun hl => ?_)
                          obtain _ | ⟨v136, l⟩ := l
                          · have hj := drop_end hd
                            rw [l43_9.eq_1] at h
                            refine wmh_seq ?_
                            refine wmh_region ?_
                            refine wh_q rfl rfl (q_bin rfl rfl rfl) ?_
                            refine wh_nil ?_
                            refine wmh_seq ?_
                            refine wmh_cond rfl (fun hc => ?_) (fun hc => ?_)
                            · exfalso; have := of_decide_eq_true hc; omega
                            · refine wmh_exit ?_
                              obtain rfl := (some_inj h).symm
                              exact ⟨rfl, (sub_of ⟨rfl, rfl, rfl, rfl, rfl, rfl, rfl, rfl, rfl, rfl, rfl, rfl, rfl, rfl, rfl, rfl, rfl, rfl, rfl, rfl, rfl, rfl, rfl, rfl, rfl, rfl, rfl, rfl, rfl, rfl, rfl, rfl, rfl, rfl, rfl, rfl, rfl, rfl, rfl, trivial⟩), (sub_cuts (is := [0, 0]) rfl)⟩
                          · obtain ⟨hat, hj, hd⟩ := at_drop hd
                            rw [← hi] at hat
                            rw [l43_9.eq_2] at h
                            refine wmh_seq ?_
                            refine wmh_region ?_
                            refine wh_q rfl rfl (q_bin rfl rfl rfl) ?_
                            refine wh_nil ?_
                            refine wmh_seq ?_
                            refine wmh_cond rfl (fun hc => ?_) (fun hc => ?_)
                            · refine wmh_skip ?_
                              refine wmh_seq ?_
                              refine wmh_block ?_
                              refine wmh_seq ?_
                              refine wmh_region ?_
                              refine wh_q rfl rfl (q_index el94 rfl rfl hat) ?_
                              refine wh_q rfl rfl (q_load_ref ty105 rfl rfl (pick_all rfl)) ?_
                              refine wh_l rfl rfl (oh_alloc (n := 8) (cs := [.sc (.int .i64 0), .sc (.int .i64 0), .sc (.int .i64 0), .sc (.int .i64 0), .sc (.int .i64 0), .sc (.string { data := #[] }), .sc (.slice none 0 0), .sc (.slice none 0 0)]) ze105 rfl rfl (fun k138 => ?_))
                              refine wh_n rfl (oh_store (i := 0) [iA v136.op, iA v136.to, iA v136.tag, iA v136.fn, iA v136.n, sA v136.prim, slA 2 CVal.A v136.vals, slA 4 CAlt.A v136.alts] ty105 rfl rfl rfl rfl rfl rfl rfl ?_)
                              refine wh_nil ?_
                              refine wmh_seq ?_
                              refine wmh_region ?_
                              refine wh_q rfl rfl (q_move rfl) ?_
                              refine wh_q rfl rfl (q_load_own ty105 rfl (i := 0) rfl (pick_all rfl)) ?_
                              refine wh_q rfl rfl (q_fieldAddr_own fl101_1 rfl) ?_
                              refine wh_q rfl rfl (q_load_own ty3 rfl (i := 1) rfl rfl) ?_
                              refine wh_q rfl rfl (q_fieldAddr_own fl101_2 rfl) ?_
                              refine wh_q rfl rfl (q_load_own ty3 rfl (i := 1) rfl rfl) ?_
                              refine wh_q rfl rfl (q_move rfl) ?_
                              obtain ⟨v140, hb772, h⟩ := obind h
                              refine wh_l rfl rfl (oh_call1 [] fn87 rfl rfl (fun τ hτ => c87 hb772 τ) ?_)
                              refine wh_q rfl rfl (q_not rfl) ?_
                              refine wh_nil ?_
                              refine wmh_ite rfl h (fun hc773 h => ?_) (fun hc773 h => ?_)
                              · refine wmh_seq ?_
                                refine wmh_region ?_
                                refine wh_q rfl rfl (q_assign rfl) ?_
                                refine wh_nil ?_
                                refine wmh_ret ?_
                                obtain rfl := (some_inj h).symm
                                exact ⟨rfl, _, _, rh_one rfl rfl, sub_cuts (is := [2]) rfl, rfl, rfl⟩
                              · refine wmh_skip ?_
                                refine wmh_region ?_
                                refine wh_q rfl rfl (q_add1 rfl rfl (by omega)) ?_
                                refine wh_q rfl rfl (q_move rfl) ?_
                                refine wh_nil ?_
                                exact ⟨_, _, (), rfl, h, j + 1, v130 + 1, (by omega), hd, (sub_of ⟨rfl, rfl, rfl, rfl, rfl, rfl, rfl, rfl, rfl, rfl, rfl, rfl, rfl, rfl, rfl, rfl, rfl, rfl, rfl, rfl, rfl, rfl, rfl, rfl, rfl, rfl, rfl, rfl, rfl, rfl, rfl, rfl, rfl, rfl, rfl, rfl, rfl, rfl, rfl, rfl, rfl, rfl, rfl, rfl, trivial⟩), (sub_cuts (is := [1, 1]) rfl)⟩
                            · exfalso; have := of_decide_eq_false hc; omega
                    · refine wmh_skip ?_
                      obtain ⟨jr834, hx, hj834⟩ := obind h
                      refine wmh_join (ι := Int × Bool × Bool) (fun i L H => match i with | (v157, v158, v159) => jr834 = (.go (v157, v158, v159)) ∧ Sub [(0, .ref (CCode.A v1) 0), (6, .sc (.pointer (some ⟨k98, 0, none⟩))), (7, iA (v1.ins.length : Int)), (67, slA 3 CFun.A v1.funs), (68, iA (v1.funs.length : Int)), (69, iA v10), (104, .sc (.pointer (some ⟨k98, 2, none⟩))), (105, iA v96.at_), (106, iA (v1.ins.length : Int)), (107, .sc (.bool (decide ((v1.ins.length : Int) ≤ v96.at_)))), (110, iA (v1.ins.length : Int)), (111, .ref (CCode.A v1) 0), (112, .ref (CCode.A v1) 0), (113, .ref (CCode.A v1) 2), (114, slA 8 CIns.A v1.ins), (115, iA (v1.ins.length : Int)), (116, .sc (.bool (decide ((v1.ins.length : Int) < (v1.ins.length : Int))))), (119, .sc (.pointer (some ⟨k98, 0, none⟩))), (120, iA v96.params), (121, .sc (.pointer (some ⟨k98, 1, none⟩))), (122, iA v96.regs), (123, .sc (.bool (decide (v96.regs < v96.params)))), (126, .sc (.pointer (some ⟨k98, 1, none⟩))), (127, iA v96.regs), (128, .sc (.pointer (some ⟨k98, 0, none⟩))), (129, iA v96.params), (130, iA (v1.ins.length : Int)), (131, iA (i64 (v96.params + (v1.ins.length : Int)))), (132, .sc (.pointer (some ⟨k98, 2, none⟩))), (133, iA v96.at_), (134, iA (i64 ((i64 (v96.params + (v1.ins.length : Int))) - v96.at_))), (135, .sc (.bool (decide ((i64 ((i64 (v96.params + (v1.ins.length : Int))) - v96.at_)) < v96.regs)))), (138, .ref (CCode.A v1) 0), (139, .ref (CCode.A v1) 0), (140, .ref (CCode.A v1) 2), (141, slA 8 CIns.A v1.ins), (142, iA (v1.ins.length : Int)), (143, iA (i64 ((v1.ins.length : Int) - 1))), (146, iA v157), (147, .sc (.bool v158)), (148, .sc (.bool v159))] L ∧ SubH [.blk k98 (.cells 101 3 [iA v96.params, iA v96.regs, iA v96.at_]), .frm τ] H) ?_ ?_
                      · have h := hx
                        refine wmh_seq ?_
                        refine wmh_region ?_
                        refine wh_q rfl rfl (q_move rfl) ?_
                        refine wh_q rfl rfl (q_bin rfl rfl rfl) ?_
                        refine wh_q rfl rfl (q_move rfl) ?_
                        refine wh_ite (t := 98) rfl h (fun hc849 h => ?_) (fun hc849 h => ?_)
                        · refine wh_q rfl rfl (q_fieldAddr_own fl101_2 rfl) ?_
                          refine wh_q rfl rfl (q_load_own ty3 rfl (i := 0) rfl rfl) ?_
                          refine wh_q rfl rfl (q_bin rfl rfl rfl) ?_
                          refine wh_q rfl rfl (q_pick_t rfl rfl) ?_
                          refine wh_q rfl rfl (q_move rfl) ?_
                          refine wh_ite (t := 103) rfl h (fun hc850 h => ?_) (fun hc850 h => ?_)
                          · refine wh_sk rfl rfl ?_
                            refine wh_sk rfl rfl ?_
                            refine wh_sk rfl rfl ?_
                            refine wh_sk rfl rfl ?_
                            refine wh_q rfl rfl (q_pick_t rfl rfl) ?_
                            refine wh_q rfl rfl (q_move rfl) ?_
                            refine wh_sk rfl rfl ?_
                            refine wh_sk rfl rfl ?_
                            refine wh_sk rfl rfl ?_
                            refine wh_sk rfl rfl ?_
                            refine wh_sk rfl rfl ?_
                            refine wh_sk rfl rfl ?_
                            refine wh_sk rfl rfl ?_
                            refine wh_q rfl rfl (q_pick_t rfl rfl) ?_
                            refine wh_q rfl rfl (q_move rfl) ?_
                            refine wh_sk rfl rfl ?_
                            refine wh_sk rfl rfl ?_
                            refine wh_sk rfl rfl ?_
                            refine wh_sk rfl rfl ?_
                            refine wh_sk rfl rfl ?_
                            refine wh_q rfl rfl (q_pick_t rfl rfl) ?_
                            refine wh_q rfl rfl (q_move rfl) ?_
                            refine wh_sk rfl rfl ?_
                            refine wh_sk rfl rfl ?_
                            refine wh_sk rfl rfl ?_
                            refine wh_sk rfl rfl ?_
                            refine wh_sk rfl rfl ?_
                            refine wh_sk rfl rfl ?_
                            refine wh_sk rfl rfl ?_
                            refine wh_sk rfl rfl ?_
                            refine wh_sk rfl rfl ?_
                            refine wh_sk rfl rfl ?_
                            refine wh_q rfl rfl (q_pick_t rfl rfl) ?_
                            refine wh_q rfl rfl (q_move rfl) ?_
                            refine wh_sk rfl rfl ?_
                            refine wh_sk rfl rfl ?_
                            refine wh_sk rfl rfl ?_
                            refine wh_sk rfl rfl ?_
                            refine wh_sk rfl rfl ?_
                            refine wh_sk rfl rfl ?_
                            refine wh_sk rfl rfl ?_
                            refine wh_sk rfl rfl ?_
                            refine wh_sk rfl rfl ?_
                            refine wh_sk rfl rfl ?_
                            refine wh_sk rfl rfl ?_
                            refine wh_q rfl rfl (q_pick_t rfl rfl) ?_
                            refine wh_nil ?_
                            refine wmh_cond_t rfl ?_
                            refine wmh_seq ?_
                            refine wmh_region ?_
                            refine wh_q rfl rfl (q_assign rfl) ?_
                            refine wh_nil ?_
                            refine wmh_ret ?_
                            obtain ⟨rv, hv, e_⟩ := obind h; obtain rfl := (some_inj e_).symm; have h := hv.trans hj834
                            obtain rfl := (some_inj h).symm
                            exact ⟨rfl, _, _, rh_one rfl rfl, sub_cuts (is := [1]) rfl, rfl, rfl⟩
                          · refine wh_q rfl rfl (q_fieldAddr_own fl101_2 rfl) ?_
                            refine wh_q rfl rfl (q_load_own ty3 rfl (i := 0) rfl rfl) ?_
                            refine wh_q rfl rfl (q_move rfl) ?_
                            refine wh_q rfl rfl (q_bin rfl rfl rfl) ?_
                            refine wh_q rfl rfl (q_pick_f rfl rfl) ?_
                            refine wh_q rfl rfl (q_move rfl) ?_
                            refine wh_ite (t := 109) rfl h (fun hc851 h => ?_) (fun hc851 h => ?_)
                            · refine wh_sk rfl rfl ?_
                              refine wh_sk rfl rfl ?_
                              refine wh_sk rfl rfl ?_
                              refine wh_sk rfl rfl ?_
                              refine wh_sk rfl rfl ?_
                              refine wh_sk rfl rfl ?_
                              refine wh_sk rfl rfl ?_
                              refine wh_q rfl rfl (q_pick_t rfl rfl) ?_
                              refine wh_q rfl rfl (q_move rfl) ?_
                              refine wh_sk rfl rfl ?_
                              refine wh_sk rfl rfl ?_
                              refine wh_sk rfl rfl ?_
                              refine wh_sk rfl rfl ?_
                              refine wh_sk rfl rfl ?_
                              refine wh_q rfl rfl (q_pick_t rfl rfl) ?_
                              refine wh_q rfl rfl (q_move rfl) ?_
                              refine wh_sk rfl rfl ?_
                              refine wh_sk rfl rfl ?_
                              refine wh_sk rfl rfl ?_
                              refine wh_sk rfl rfl ?_
                              refine wh_sk rfl rfl ?_
                              refine wh_sk rfl rfl ?_
                              refine wh_sk rfl rfl ?_
                              refine wh_sk rfl rfl ?_
                              refine wh_sk rfl rfl ?_
                              refine wh_sk rfl rfl ?_
                              refine wh_q rfl rfl (q_pick_t rfl rfl) ?_
                              refine wh_q rfl rfl (q_move rfl) ?_
                              refine wh_sk rfl rfl ?_
                              refine wh_sk rfl rfl ?_
                              refine wh_sk rfl rfl ?_
                              refine wh_sk rfl rfl ?_
                              refine wh_sk rfl rfl ?_
                              refine wh_sk rfl rfl ?_
                              refine wh_sk rfl rfl ?_
                              refine wh_sk rfl rfl ?_
                              refine wh_sk rfl rfl ?_
                              refine wh_sk rfl rfl ?_
                              refine wh_sk rfl rfl ?_
                              refine wh_q rfl rfl (q_pick_t rfl rfl) ?_
                              refine wh_nil ?_
                              refine wmh_cond_t rfl ?_
                              refine wmh_seq ?_
                              refine wmh_region ?_
                              refine wh_q rfl rfl (q_assign rfl) ?_
                              refine wh_nil ?_
                              refine wmh_ret ?_
                              obtain ⟨rv, hv, e_⟩ := obind h; obtain rfl := (some_inj e_).symm; have h := hv.trans hj834
                              obtain rfl := (some_inj h).symm
                              exact ⟨rfl, _, _, rh_one rfl rfl, sub_cuts (is := [1]) rfl, rfl, rfl⟩
                            · refine wh_q rfl rfl (q_move rfl) ?_
                              refine wh_q rfl rfl (q_move rfl) ?_
                              refine wh_q rfl rfl (q_nilCheck_ref rfl) ?_
                              refine wh_q rfl rfl (q_fieldAddr_ref fl96_2 rfl) ?_
                              refine wh_q rfl rfl (q_load_ref ty94 rfl rfl rfl) ?_
                              refine wh_q rfl rfl (q_len_slA Tryd.underlying94 rfl) ?_
                              refine wh_q rfl rfl (q_bin rfl rfl rfl) ?_
                              refine wh_q rfl rfl (q_pick_f rfl rfl) ?_
                              refine wh_q rfl rfl (q_move rfl) ?_
                              refine wh_ite (t := 118) rfl h (fun hc852 h => ?_) (fun hc852 h => ?_)
                              · refine wh_sk rfl rfl ?_
                                refine wh_sk rfl rfl ?_
                                refine wh_sk rfl rfl ?_
                                refine wh_sk rfl rfl ?_
                                refine wh_sk rfl rfl ?_
                                refine wh_q rfl rfl (q_pick_t rfl rfl) ?_
                                refine wh_q rfl rfl (q_move rfl) ?_
                                refine wh_sk rfl rfl ?_
                                refine wh_sk rfl rfl ?_
                                refine wh_sk rfl rfl ?_
                                refine wh_sk rfl rfl ?_
                                refine wh_sk rfl rfl ?_
                                refine wh_sk rfl rfl ?_
                                refine wh_sk rfl rfl ?_
                                refine wh_sk rfl rfl ?_
                                refine wh_sk rfl rfl ?_
                                refine wh_sk rfl rfl ?_
                                refine wh_q rfl rfl (q_pick_t rfl rfl) ?_
                                refine wh_q rfl rfl (q_move rfl) ?_
                                refine wh_sk rfl rfl ?_
                                refine wh_sk rfl rfl ?_
                                refine wh_sk rfl rfl ?_
                                refine wh_sk rfl rfl ?_
                                refine wh_sk rfl rfl ?_
                                refine wh_sk rfl rfl ?_
                                refine wh_sk rfl rfl ?_
                                refine wh_sk rfl rfl ?_
                                refine wh_sk rfl rfl ?_
                                refine wh_sk rfl rfl ?_
                                refine wh_sk rfl rfl ?_
                                refine wh_q rfl rfl (q_pick_t rfl rfl) ?_
                                refine wh_nil ?_
                                refine wmh_cond_t rfl ?_
                                refine wmh_seq ?_
                                refine wmh_region ?_
                                refine wh_q rfl rfl (q_assign rfl) ?_
                                refine wh_nil ?_
                                refine wmh_ret ?_
                                obtain ⟨rv, hv, e_⟩ := obind h; obtain rfl := (some_inj e_).symm; have h := hv.trans hj834
                                obtain rfl := (some_inj h).symm
                                exact ⟨rfl, _, _, rh_one rfl rfl, sub_cuts (is := [1]) rfl, rfl, rfl⟩
                              · refine wh_q rfl rfl (q_fieldAddr_own fl101_0 rfl) ?_
                                refine wh_q rfl rfl (q_load_own ty3 rfl (i := 0) rfl rfl) ?_
                                refine wh_q rfl rfl (q_fieldAddr_own fl101_1 rfl) ?_
                                refine wh_q rfl rfl (q_load_own ty3 rfl (i := 0) rfl rfl) ?_
                                refine wh_q rfl rfl (q_bin rfl rfl rfl) ?_
                                refine wh_q rfl rfl (q_pick_f rfl rfl) ?_
                                refine wh_q rfl rfl (q_move rfl) ?_
                                refine wh_ite (t := 125) rfl h (fun hc853 h => ?_) (fun hc853 h => ?_)
                                · refine wh_sk rfl rfl ?_
                                  refine wh_sk rfl rfl ?_
                                  refine wh_sk rfl rfl ?_
                                  refine wh_sk rfl rfl ?_
                                  refine wh_sk rfl rfl ?_
                                  refine wh_sk rfl rfl ?_
                                  refine wh_sk rfl rfl ?_
                                  refine wh_sk rfl rfl ?_
                                  refine wh_sk rfl rfl ?_
                                  refine wh_sk rfl rfl ?_
                                  refine wh_q rfl rfl (q_pick_t rfl rfl) ?_
                                  refine wh_q rfl rfl (q_move rfl) ?_
                                  refine wh_sk rfl rfl ?_
                                  refine wh_sk rfl rfl ?_
                                  refine wh_sk rfl rfl ?_
                                  refine wh_sk rfl rfl ?_
                                  refine wh_sk rfl rfl ?_
                                  refine wh_sk rfl rfl ?_
                                  refine wh_sk rfl rfl ?_
                                  refine wh_sk rfl rfl ?_
                                  refine wh_sk rfl rfl ?_
                                  refine wh_sk rfl rfl ?_
                                  refine wh_sk rfl rfl ?_
                                  refine wh_q rfl rfl (q_pick_t rfl rfl) ?_
                                  refine wh_nil ?_
                                  refine wmh_cond_t rfl ?_
                                  refine wmh_seq ?_
                                  refine wmh_region ?_
                                  refine wh_q rfl rfl (q_assign rfl) ?_
                                  refine wh_nil ?_
                                  refine wmh_ret ?_
                                  obtain ⟨rv, hv, e_⟩ := obind h; obtain rfl := (some_inj e_).symm; have h := hv.trans hj834
                                  obtain rfl := (some_inj h).symm
                                  exact ⟨rfl, _, _, rh_one rfl rfl, sub_cuts (is := [1]) rfl, rfl, rfl⟩
                                · refine wh_q rfl rfl (q_fieldAddr_own fl101_1 rfl) ?_
                                  refine wh_q rfl rfl (q_load_own ty3 rfl (i := 0) rfl rfl) ?_
                                  refine wh_q rfl rfl (q_fieldAddr_own fl101_0 rfl) ?_
                                  refine wh_q rfl rfl (q_load_own ty3 rfl (i := 0) rfl rfl) ?_
                                  refine wh_q rfl rfl (q_move rfl) ?_
                                  refine wh_q rfl rfl (q_bin rfl rfl rfl) ?_
                                  refine wh_q rfl rfl (q_fieldAddr_own fl101_2 rfl) ?_
                                  refine wh_q rfl rfl (q_load_own ty3 rfl (i := 0) rfl rfl) ?_
                                  refine wh_q rfl rfl (q_bin rfl rfl rfl) ?_
                                  refine wh_q rfl rfl (q_bin rfl rfl rfl) ?_
                                  refine wh_q rfl rfl (q_pick_f rfl rfl) ?_
                                  refine wh_q rfl rfl (q_move rfl) ?_
                                  refine wh_ite (t := 137) rfl h (fun hc854 h => ?_) (fun hc854 h => ?_)
                                  · refine wh_sk rfl rfl ?_
                                    refine wh_sk rfl rfl ?_
                                    refine wh_sk rfl rfl ?_
                                    refine wh_sk rfl rfl ?_
                                    refine wh_sk rfl rfl ?_
                                    refine wh_sk rfl rfl ?_
                                    refine wh_sk rfl rfl ?_
                                    refine wh_sk rfl rfl ?_
                                    refine wh_sk rfl rfl ?_
                                    refine wh_sk rfl rfl ?_
                                    refine wh_sk rfl rfl ?_
                                    refine wh_q rfl rfl (q_pick_t rfl rfl) ?_
                                    refine wh_nil ?_
                                    refine wmh_cond_t rfl ?_
                                    refine wmh_seq ?_
                                    refine wmh_region ?_
                                    refine wh_q rfl rfl (q_assign rfl) ?_
                                    refine wh_nil ?_
                                    refine wmh_ret ?_
                                    obtain ⟨rv, hv, e_⟩ := obind h; obtain rfl := (some_inj e_).symm; have h := hv.trans hj834
                                    obtain rfl := (some_inj h).symm
                                    exact ⟨rfl, _, _, rh_one rfl rfl, sub_cuts (is := [1]) rfl, rfl, rfl⟩
                                  · refine wh_q rfl rfl (q_move rfl) ?_
                                    refine wh_q rfl rfl (q_nilCheck_ref rfl) ?_
                                    refine wh_q rfl rfl (q_fieldAddr_ref fl96_2 rfl) ?_
                                    refine wh_q rfl rfl (q_load_ref ty94 rfl rfl rfl) ?_
                                    refine wh_q rfl rfl (q_move rfl) ?_
                                    refine wh_q rfl rfl (q_bin rfl rfl rfl) ?_
                                    obtain ⟨v164, hb855, h⟩ := obind h
                                    refine wh_q rfl rfl (q_index el94 rfl rfl hb855) ?_
                                    refine wh_q rfl rfl (q_fieldAddr_ref fl105_0 rfl) ?_
                                    refine wh_q rfl rfl (q_load_ref ty3 rfl rfl rfl) ?_
                                    obtain ⟨v165, hb856, h⟩ := obind h
                                    refine wh_l rfl rfl (oh_call1 [] fn86 rfl rfl (fun τ hτ => c86 hb856 τ) ?_)
                                    refine wh_q rfl rfl (q_not rfl) ?_
                                    refine wh_q rfl rfl (q_pick_f rfl rfl) ?_
                                    refine wh_nil ?_
                                    refine wmh_ite rfl h (fun hc857 h => ?_) (fun hc857 h => ?_)
                                    · refine wmh_seq ?_
                                      refine wmh_region ?_
                                      refine wh_q rfl rfl (q_assign rfl) ?_
                                      refine wh_nil ?_
                                      refine wmh_ret ?_
                                      obtain ⟨rv, hv, e_⟩ := obind h; obtain rfl := (some_inj e_).symm; have h := hv.trans hj834
                                      obtain rfl := (some_inj h).symm
                                      exact ⟨rfl, _, _, rh_one rfl rfl, sub_cuts (is := [1]) rfl, rfl, rfl⟩
                                    · refine wmh_skip ?_
                                      obtain rfl := (some_inj h).symm
                                      exact ⟨(v164.op, v165, (!v165)), rfl, (sub_of ⟨rfl, rfl, rfl, rfl, rfl, rfl, rfl, rfl, rfl, rfl, rfl, rfl, rfl, rfl, rfl, rfl, rfl, rfl, rfl, rfl, rfl, rfl, rfl, rfl, rfl, rfl, rfl, rfl, rfl, rfl, rfl, rfl, rfl, rfl, rfl, rfl, rfl, rfl, rfl, rfl, rfl, trivial⟩), (sub_cuts (is := [0, 0]) rfl)⟩
                        · refine wh_sk rfl rfl ?_
                          refine wh_sk rfl rfl ?_
                          refine wh_sk rfl rfl ?_
                          refine wh_q rfl rfl (q_pick_f rfl rfl) ?_
                          refine wh_q rfl rfl (q_move rfl) ?_
                          refine wh_q rfl rfl (q_fieldAddr_own fl101_2 rfl) ?_
                          refine wh_q rfl rfl (q_load_own ty3 rfl (i := 0) rfl rfl) ?_
                          refine wh_q rfl rfl (q_move rfl) ?_
                          refine wh_q rfl rfl (q_bin rfl rfl rfl) ?_
                          refine wh_q rfl rfl (q_pick_f rfl rfl) ?_
                          refine wh_q rfl rfl (q_move rfl) ?_
                          refine wh_ite (t := 109) rfl h (fun hc858 h => ?_) (fun hc858 h => ?_)
                          · refine wh_sk rfl rfl ?_
                            refine wh_sk rfl rfl ?_
                            refine wh_sk rfl rfl ?_
                            refine wh_sk rfl rfl ?_
                            refine wh_sk rfl rfl ?_
                            refine wh_sk rfl rfl ?_
                            refine wh_sk rfl rfl ?_
                            refine wh_q rfl rfl (q_pick_t rfl rfl) ?_
                            refine wh_q rfl rfl (q_move rfl) ?_
                            refine wh_sk rfl rfl ?_
                            refine wh_sk rfl rfl ?_
                            refine wh_sk rfl rfl ?_
                            refine wh_sk rfl rfl ?_
                            refine wh_sk rfl rfl ?_
                            refine wh_q rfl rfl (q_pick_t rfl rfl) ?_
                            refine wh_q rfl rfl (q_move rfl) ?_
                            refine wh_sk rfl rfl ?_
                            refine wh_sk rfl rfl ?_
                            refine wh_sk rfl rfl ?_
                            refine wh_sk rfl rfl ?_
                            refine wh_sk rfl rfl ?_
                            refine wh_sk rfl rfl ?_
                            refine wh_sk rfl rfl ?_
                            refine wh_sk rfl rfl ?_
                            refine wh_sk rfl rfl ?_
                            refine wh_sk rfl rfl ?_
                            refine wh_q rfl rfl (q_pick_t rfl rfl) ?_
                            refine wh_q rfl rfl (q_move rfl) ?_
                            refine wh_sk rfl rfl ?_
                            refine wh_sk rfl rfl ?_
                            refine wh_sk rfl rfl ?_
                            refine wh_sk rfl rfl ?_
                            refine wh_sk rfl rfl ?_
                            refine wh_sk rfl rfl ?_
                            refine wh_sk rfl rfl ?_
                            refine wh_sk rfl rfl ?_
                            refine wh_sk rfl rfl ?_
                            refine wh_sk rfl rfl ?_
                            refine wh_sk rfl rfl ?_
                            refine wh_q rfl rfl (q_pick_t rfl rfl) ?_
                            refine wh_nil ?_
                            refine wmh_cond_t rfl ?_
                            refine wmh_seq ?_
                            refine wmh_region ?_
                            refine wh_q rfl rfl (q_assign rfl) ?_
                            refine wh_nil ?_
                            refine wmh_ret ?_
                            obtain ⟨rv, hv, e_⟩ := obind h; obtain rfl := (some_inj e_).symm; have h := hv.trans hj834
                            obtain rfl := (some_inj h).symm
                            exact ⟨rfl, _, _, rh_one rfl rfl, sub_cuts (is := [1]) rfl, rfl, rfl⟩
                          · refine wh_q rfl rfl (q_move rfl) ?_
                            refine wh_q rfl rfl (q_move rfl) ?_
                            refine wh_q rfl rfl (q_nilCheck_ref rfl) ?_
                            refine wh_q rfl rfl (q_fieldAddr_ref fl96_2 rfl) ?_
                            refine wh_q rfl rfl (q_load_ref ty94 rfl rfl rfl) ?_
                            refine wh_q rfl rfl (q_len_slA Tryd.underlying94 rfl) ?_
                            refine wh_q rfl rfl (q_bin rfl rfl rfl) ?_
                            refine wh_q rfl rfl (q_pick_f rfl rfl) ?_
                            refine wh_q rfl rfl (q_move rfl) ?_
                            refine wh_ite (t := 118) rfl h (fun hc859 h => ?_) (fun hc859 h => ?_)
                            · refine wh_sk rfl rfl ?_
                              refine wh_sk rfl rfl ?_
                              refine wh_sk rfl rfl ?_
                              refine wh_sk rfl rfl ?_
                              refine wh_sk rfl rfl ?_
                              refine wh_q rfl rfl (q_pick_t rfl rfl) ?_
                              refine wh_q rfl rfl (q_move rfl) ?_
                              refine wh_sk rfl rfl ?_
                              refine wh_sk rfl rfl ?_
                              refine wh_sk rfl rfl ?_
                              refine wh_sk rfl rfl ?_
                              refine wh_sk rfl rfl ?_
                              refine wh_sk rfl rfl ?_
                              refine wh_sk rfl rfl ?_
                              refine wh_sk rfl rfl ?_
                              refine wh_sk rfl rfl ?_
                              refine wh_sk rfl rfl ?_
                              refine wh_q rfl rfl (q_pick_t rfl rfl) ?_
                              refine wh_q rfl rfl (q_move rfl) ?_
                              refine wh_sk rfl rfl ?_
                              refine wh_sk rfl rfl ?_
                              refine wh_sk rfl rfl ?_
                              refine wh_sk rfl rfl ?_
                              refine wh_sk rfl rfl ?_
                              refine wh_sk rfl rfl ?_
                              refine wh_sk rfl rfl ?_
                              refine wh_sk rfl rfl ?_
                              refine wh_sk rfl rfl ?_
                              refine wh_sk rfl rfl ?_
                              refine wh_sk rfl rfl ?_
                              refine wh_q rfl rfl (q_pick_t rfl rfl) ?_
                              refine wh_nil ?_
                              refine wmh_cond_t rfl ?_
                              refine wmh_seq ?_
                              refine wmh_region ?_
                              refine wh_q rfl rfl (q_assign rfl) ?_
                              refine wh_nil ?_
                              refine wmh_ret ?_
                              obtain ⟨rv, hv, e_⟩ := obind h; obtain rfl := (some_inj e_).symm; have h := hv.trans hj834
                              obtain rfl := (some_inj h).symm
                              exact ⟨rfl, _, _, rh_one rfl rfl, sub_cuts (is := [1]) rfl, rfl, rfl⟩
                            · refine wh_q rfl rfl (q_fieldAddr_own fl101_0 rfl) ?_
                              refine wh_q rfl rfl (q_load_own ty3 rfl (i := 0) rfl rfl) ?_
                              refine wh_q rfl rfl (q_fieldAddr_own fl101_1 rfl) ?_
                              refine wh_q rfl rfl (q_load_own ty3 rfl (i := 0) rfl rfl) ?_
                              refine wh_q rfl rfl (q_bin rfl rfl rfl) ?_
                              refine wh_q rfl rfl (q_pick_f rfl rfl) ?_
                              refine wh_q rfl rfl (q_move rfl) ?_
                              refine wh_ite (t := 125) rfl h (fun hc860 h => ?_) (fun hc860 h => ?_)
                              · refine wh_sk rfl rfl ?_
                                refine wh_sk rfl rfl ?_
                                refine wh_sk rfl rfl ?_
                                refine wh_sk rfl rfl ?_
                                refine wh_sk rfl rfl ?_
                                refine wh_sk rfl rfl ?_
                                refine wh_sk rfl rfl ?_
                                refine wh_sk rfl rfl ?_
                                refine wh_sk rfl rfl ?_
                                refine wh_sk rfl rfl ?_
                                refine wh_q rfl rfl (q_pick_t rfl rfl) ?_
                                refine wh_q rfl rfl (q_move rfl) ?_
                                refine wh_sk rfl rfl ?_
                                refine wh_sk rfl rfl ?_
                                refine wh_sk rfl rfl ?_
                                refine wh_sk rfl rfl ?_
                                refine wh_sk rfl rfl ?_
                                refine wh_sk rfl rfl ?_
                                refine wh_sk rfl rfl ?_
                                refine wh_sk rfl rfl ?_
                                refine wh_sk rfl rfl ?_
                                refine wh_sk rfl rfl ?_
                                refine wh_sk rfl rfl ?_
                                refine wh_q rfl rfl (q_pick_t rfl rfl) ?_
                                refine wh_nil ?_
                                refine wmh_cond_t rfl ?_
                                refine wmh_seq ?_
                                refine wmh_region ?_
                                refine wh_q rfl rfl (q_assign rfl) ?_
                                refine wh_nil ?_
                                refine wmh_ret ?_
                                obtain ⟨rv, hv, e_⟩ := obind h; obtain rfl := (some_inj e_).symm; have h := hv.trans hj834
                                obtain rfl := (some_inj h).symm
                                exact ⟨rfl, _, _, rh_one rfl rfl, sub_cuts (is := [1]) rfl, rfl, rfl⟩
                              · refine wh_q rfl rfl (q_fieldAddr_own fl101_1 rfl) ?_
                                refine wh_q rfl rfl (q_load_own ty3 rfl (i := 0) rfl rfl) ?_
                                refine wh_q rfl rfl (q_fieldAddr_own fl101_0 rfl) ?_
                                refine wh_q rfl rfl (q_load_own ty3 rfl (i := 0) rfl rfl) ?_
                                refine wh_q rfl rfl (q_move rfl) ?_
                                refine wh_q rfl rfl (q_bin rfl rfl rfl) ?_
                                refine wh_q rfl rfl (q_fieldAddr_own fl101_2 rfl) ?_
                                refine wh_q rfl rfl (q_load_own ty3 rfl (i := 0) rfl rfl) ?_
                                refine wh_q rfl rfl (q_bin rfl rfl rfl) ?_
                                refine wh_q rfl rfl (q_bin rfl rfl rfl) ?_
                                refine wh_q rfl rfl (q_pick_f rfl rfl) ?_
                                refine wh_q rfl rfl (q_move rfl) ?_
                                refine wh_ite (t := 137) rfl h (fun hc861 h => ?_) (fun hc861 h => ?_)
                                · refine wh_sk rfl rfl ?_
                                  refine wh_sk rfl rfl ?_
                                  refine wh_sk rfl rfl ?_
                                  refine wh_sk rfl rfl ?_
                                  refine wh_sk rfl rfl ?_
                                  refine wh_sk rfl rfl ?_
                                  refine wh_sk rfl rfl ?_
                                  refine wh_sk rfl rfl ?_
                                  refine wh_sk rfl rfl ?_
                                  refine wh_sk rfl rfl ?_
                                  refine wh_sk rfl rfl ?_
                                  refine wh_q rfl rfl (q_pick_t rfl rfl) ?_
                                  refine wh_nil ?_
                                  refine wmh_cond_t rfl ?_
                                  refine wmh_seq ?_
                                  refine wmh_region ?_
                                  refine wh_q rfl rfl (q_assign rfl) ?_
                                  refine wh_nil ?_
                                  refine wmh_ret ?_
                                  obtain ⟨rv, hv, e_⟩ := obind h; obtain rfl := (some_inj e_).symm; have h := hv.trans hj834
                                  obtain rfl := (some_inj h).symm
                                  exact ⟨rfl, _, _, rh_one rfl rfl, sub_cuts (is := [1]) rfl, rfl, rfl⟩
                                · refine wh_q rfl rfl (q_move rfl) ?_
                                  refine wh_q rfl rfl (q_nilCheck_ref rfl) ?_
                                  refine wh_q rfl rfl (q_fieldAddr_ref fl96_2 rfl) ?_
                                  refine wh_q rfl rfl (q_load_ref ty94 rfl rfl rfl) ?_
                                  refine wh_q rfl rfl (q_move rfl) ?_
                                  refine wh_q rfl rfl (q_bin rfl rfl rfl) ?_
                                  obtain ⟨v166, hb862, h⟩ := obind h
                                  refine wh_q rfl rfl (q_index el94 rfl rfl hb862) ?_
                                  refine wh_q rfl rfl (q_fieldAddr_ref fl105_0 rfl) ?_
                                  refine wh_q rfl rfl (q_load_ref ty3 rfl rfl rfl) ?_
                                  obtain ⟨v167, hb863, h⟩ := obind h
                                  refine wh_l rfl rfl (oh_call1 [] fn86 rfl rfl (fun τ hτ => c86 hb863 τ) ?_)
                                  refine wh_q rfl rfl (q_not rfl) ?_
                                  refine wh_q rfl rfl (q_pick_f rfl rfl) ?_
                                  refine wh_nil ?_
                                  refine wmh_ite rfl h (fun hc864 h => ?_) (fun hc864 h => ?_)
                                  · refine wmh_seq ?_
                                    refine wmh_region ?_
                                    refine wh_q rfl rfl (q_assign rfl) ?_
                                    refine wh_nil ?_
                                    refine wmh_ret ?_
                                    obtain ⟨rv, hv, e_⟩ := obind h; obtain rfl := (some_inj e_).symm; have h := hv.trans hj834
                                    obtain rfl := (some_inj h).symm
                                    exact ⟨rfl, _, _, rh_one rfl rfl, sub_cuts (is := [1]) rfl, rfl, rfl⟩
                                  · refine wmh_skip ?_
                                    obtain rfl := (some_inj h).symm
                                    exact ⟨(v166.op, v167, (!v167)), rfl, (sub_of ⟨rfl, rfl, rfl, rfl, rfl, rfl, rfl, rfl, rfl, rfl, rfl, rfl, rfl, rfl, rfl, rfl, rfl, rfl, rfl, rfl, rfl, rfl, rfl, rfl, rfl, rfl, rfl, rfl, rfl, rfl, rfl, rfl, rfl, rfl, rfl, rfl, rfl, rfl, rfl, rfl, rfl, trivial⟩), (sub_cuts (is := [0, 0]) rfl)⟩
                      · rintro ⟨v157, v158, v159⟩ L H hp
                        obtain ⟨rfl, hs, hh⟩ := hp
                        have h := hj834
                        refine wmh_sub hs hh ?_
                        refine wmh_seq ?_
                        refine wmh_drawn _ [] [0, 1, 2, 3, 4, 5, 6, 7, 8, 9] mixed (by kernel_rfl) (sub_cuts (is := [0]) rfl) ?_
                        refine vh_q rfl rfl rfl rfl (q_move rfl) ?_
                        refine vh_q rfl rfl rfl rfl (q_nilCheck_ref rfl) ?_
                        refine vh_q rfl rfl rfl rfl (q_fieldAddr_ref fl96_2 rfl) ?_
                        refine vh_q rfl rfl rfl rfl (q_load_ref ty94 rfl rfl rfl) ?_
                        refine vh_q rfl rfl rfl rfl (q_fieldAddr_own fl101_2 rfl) ?_
                        refine vh_q rfl rfl rfl rfl (q_load_own ty3 rfl (i := 0) rfl rfl) ?_
                        refine vh_q rfl rfl rfl rfl (q_move rfl) ?_
                        obtain ⟨v169, hb866, h⟩ := obind h
                        refine vh_q rfl rfl rfl rfl (q_slice_slA el94 rfl rfl rfl hb866) ?_
                        refine vh_q rfl rfl rfl rfl (q_len_slA Tryd.underlying94 rfl) ?_
                        refine vh_q rfl rfl rfl rfl (q_move rfl) ?_
                        refine vh_nil ?_
                        obtain ⟨rr876, hr876, h⟩ := obind h
                        refine wmh_block ?_
                        refine wmh_loopL (fun l s L H => match s with | _ => ∃ (j : Nat) (v170 : Int) , v170 = (j : Int) ∧ v169.drop j = l ∧ Sub [(0, .ref (CCode.A v1) 0), (6, .sc (.pointer (some ⟨k98, 0, none⟩))), (7, iA (v1.ins.length : Int)), (67, slA 3 CFun.A v1.funs), (68, iA (v1.funs.length : Int)), (69, iA v10), (104, .sc (.pointer (some ⟨k98, 2, none⟩))), (105, iA v96.at_), (106, iA (v1.ins.length : Int)), (107, .sc (.bool (decide ((v1.ins.length : Int) ≤ v96.at_)))), (110, iA (v1.ins.length : Int)), (111, .ref (CCode.A v1) 0), (112, .ref (CCode.A v1) 0), (113, .ref (CCode.A v1) 2), (114, slA 8 CIns.A v1.ins), (115, iA (v1.ins.length : Int)), (116, .sc (.bool (decide ((v1.ins.length : Int) < (v1.ins.length : Int))))), (119, .sc (.pointer (some ⟨k98, 0, none⟩))), (120, iA v96.params), (121, .sc (.pointer (some ⟨k98, 1, none⟩))), (122, iA v96.regs), (123, .sc (.bool (decide (v96.regs < v96.params)))), (126, .sc (.pointer (some ⟨k98, 1, none⟩))), (127, iA v96.regs), (128, .sc (.pointer (some ⟨k98, 0, none⟩))), (129, iA v96.params), (130, iA (v1.ins.length : Int)), (131, iA (i64 (v96.params + (v1.ins.length : Int)))), (132, .sc (.pointer (some ⟨k98, 2, none⟩))), (133, iA v96.at_), (134, iA (i64 ((i64 (v96.params + (v1.ins.length : Int))) - v96.at_))), (135, .sc (.bool (decide ((i64 ((i64 (v96.params + (v1.ins.length : Int))) - v96.at_)) < v96.regs)))), (138, .ref (CCode.A v1) 0), (139, .ref (CCode.A v1) 0), (140, .ref (CCode.A v1) 2), (141, slA 8 CIns.A v1.ins), (142, iA (v1.ins.length : Int)), (143, iA (i64 ((v1.ins.length : Int) - 1))), (146, iA v157), (147, .sc (.bool v158)), (148, .sc (.bool v159)), (157, slA 8 CIns.A v169), (158, iA (v169.length : Int)), (159, iA v170)] L ∧ SubH [.blk k98 (.cells 101 3 [iA v96.params, iA v96.regs, iA v96.at_]), .frm τ] H) (fun r e L H => match r with | .go _ =>  e = .exit 4 ∧ Sub [(0, .ref (CCode.A v1) 0), (67, slA 3 CFun.A v1.funs), (68, iA (v1.funs.length : Int)), (69, iA v10), (104, .sc (.pointer (some ⟨k98, 2, none⟩))), (105, iA v96.at_), (106, iA (v1.ins.length : Int)), (107, .sc (.bool (decide ((v1.ins.length : Int) ≤ v96.at_)))), (110, iA (v1.ins.length : Int)), (111, .ref (CCode.A v1) 0), (112, .ref (CCode.A v1) 0), (113, .ref (CCode.A v1) 2), (114, slA 8 CIns.A v1.ins), (115, iA (v1.ins.length : Int)), (116, .sc (.bool (decide ((v1.ins.length : Int) < (v1.ins.length : Int))))), (119, .sc (.pointer (some ⟨k98, 0, none⟩))), (120, iA v96.params), (121, .sc (.pointer (some ⟨k98, 1, none⟩))), (122, iA v96.regs), (123, .sc (.bool (decide (v96.regs < v96.params)))), (126, .sc (.pointer (some ⟨k98, 1, none⟩))), (127, iA v96.regs), (128, .sc (.pointer (some ⟨k98, 0, none⟩))), (129, iA v96.params), (130, iA (v1.ins.length : Int)), (131, iA (i64 (v96.params + (v1.ins.length : Int)))), (132, .sc (.pointer (some ⟨k98, 2, none⟩))), (133, iA v96.at_), (134, iA (i64 ((i64 (v96.params + (v1.ins.length : Int))) - v96.at_))), (135, .sc (.bool (decide ((i64 ((i64 (v96.params + (v1.ins.length : Int))) - v96.at_)) < v96.regs)))), (138, .ref (CCode.A v1) 0), (139, .ref (CCode.A v1) 0), (140, .ref (CCode.A v1) 2), (141, slA 8 CIns.A v1.ins), (142, iA (v1.ins.length : Int)), (143, iA (i64 ((v1.ins.length : Int) - 1))), (146, iA v157), (147, .sc (.bool v158)), (148, .sc (.bool v159))] L ∧ SubH [.blk k98 (.cells 101 3 [iA v96.params, iA v96.regs, iA v96.at_]), .frm τ] H | .ret rv => e = .ret ∧ RetRel Tryd.prog Tryd.f43 174 (Ret1 (.sc (.bool rv)) [] τ) L H) hr876 ⟨0, 0, rfl, rfl, (sub_of ⟨rfl, rfl, rfl, rfl, rfl, rfl, rfl, rfl, rfl, rfl, rfl, rfl, rfl, rfl, rfl, rfl, rfl, rfl, rfl, rfl, rfl, rfl, rfl, rfl, rfl, rfl, rfl, rfl, rfl, rfl, rfl, rfl, rfl, rfl, rfl, rfl, rfl, rfl, rfl, rfl, rfl, rfl, rfl, rfl, trivial⟩), (sub_cuts (is := [0, 0]) rfl)⟩ ?_ ?_
                        · intro e L H hp
                          obtain _ | rv := rr876
                          · obtain ⟨rfl, hs, hh⟩ := hp
                            refine wmh_sub hs hh ?_
                            refine wmh_region ?_
                            refine wh_q rfl rfl (q_add1 rfl rfl (by omega)) ?_
                            refine wh_q rfl rfl (q_move rfl) ?_
                            refine wh_nil ?_
                            exact ⟨_, _, (v10 + 1), rfl, h, j + 1, (by omega), hd, (sub_of ⟨rfl, rfl, rfl, rfl, trivial⟩), (sub_cuts (is := [1]) rfl)⟩
                          · obtain ⟨rfl, hp⟩ := hp
                            obtain rfl := (some_inj h).symm
                            exact ⟨rfl, hp⟩
                        · rintro l _ r h L H hp
                          obtain ⟨j, v170, hi, hd, hs, hh⟩ := hp
                          refine wmh_sub hs hh ?_
                          refine wmh_len (s := 157) rfl (fun hl => ?_)
                          obtain _ | ⟨v176, l⟩ := l
                          · have hj := drop_end hd
                            rw [l43_10.eq_1] at h
                            refine wmh_seq ?_
                            refine wmh_region ?_
                            refine wh_q rfl rfl (q_bin rfl rfl rfl) ?_
                            refine wh_nil ?_
                            refine wmh_seq ?_
                            refine wmh_cond rfl (fun hc => ?_) (fun hc => ?_)
                            · exfalso; have := of_decide_eq_true hc; omega
                            · refine wmh_exit ?_
                              obtain rfl := (some_inj h).symm
                              exact ⟨rfl, (sub_of ⟨rfl, rfl, rfl, rfl, rfl, rfl, rfl, rfl, rfl, rfl, rfl, rfl, rfl, rfl, rfl, rfl, rfl, rfl, rfl, rfl, rfl, rfl, rfl, rfl, rfl, rfl, rfl, rfl, rfl, rfl, rfl, rfl, rfl, rfl, rfl, rfl, rfl, rfl, rfl, trivial⟩), (sub_cuts (is := [0, 0]) rfl)⟩
                          · obtain ⟨hat, hj, hd⟩ := at_drop hd
                            rw [← hi] at hat
                            rw [l43_10.eq_2] at h
                            refine wmh_seq ?_
                            refine wmh_region ?_
                            refine wh_q rfl rfl (q_bin rfl rfl rfl) ?_
                            refine wh_nil ?_
                            refine wmh_seq ?_
                            refine wmh_cond rfl (fun hc => ?_) (fun hc => ?_)
                            · refine wmh_skip ?_
                              refine wmh_seq ?_
                              refine wmh_block ?_
                              refine wmh_seq ?_
                              refine wmh_region ?_
                              refine wh_q rfl rfl (q_index el94 rfl rfl hat) ?_
                              refine wh_q rfl rfl (q_load_ref ty105 rfl rfl (pick_all rfl)) ?_
                              refine wh_l rfl rfl (oh_alloc (n := 8) (cs := [.sc (.int .i64 0), .sc (.int .i64 0), .sc (.int .i64 0), .sc (.int .i64 0), .sc (.int .i64 0), .sc (.string { data := #[] }), .sc (.slice none 0 0), .sc (.slice none 0 0)]) ze105 rfl rfl (fun k178 => ?_))
                              refine wh_n rfl (oh_store (i := 0) [iA v176.op, iA v176.to, iA v176.tag, iA v176.fn, iA v176.n, sA v176.prim, slA 2 CVal.A v176.vals, slA 4 CAlt.A v176.alts] ty105 rfl rfl rfl rfl rfl rfl rfl ?_)
                              refine wh_nil ?_
                              refine wmh_seq ?_
                              refine wmh_region ?_
                              refine wh_q rfl rfl (q_move rfl) ?_
                              refine wh_q rfl rfl (q_load_own ty105 rfl (i := 0) rfl (pick_all rfl)) ?_
                              refine wh_q rfl rfl (q_fieldAddr_own fl101_1 rfl) ?_
                              refine wh_q rfl rfl (q_load_own ty3 rfl (i := 1) rfl rfl) ?_
                              refine wh_q rfl rfl (q_fieldAddr_own fl101_2 rfl) ?_
                              refine wh_q rfl rfl (q_load_own ty3 rfl (i := 1) rfl rfl) ?_
                              refine wh_q rfl rfl (q_move rfl) ?_
                              obtain ⟨v180, hb878, h⟩ := obind h
                              refine wh_l rfl rfl (oh_call1 [] fn87 rfl rfl (fun τ hτ => c87 hb878 τ) ?_)
                              refine wh_q rfl rfl (q_not rfl) ?_
                              refine wh_nil ?_
                              refine wmh_ite rfl h (fun hc879 h => ?_) (fun hc879 h => ?_)
                              · refine wmh_seq ?_
                                refine wmh_region ?_
                                refine wh_q rfl rfl (q_assign rfl) ?_
                                refine wh_nil ?_
                                refine wmh_ret ?_
                                obtain rfl := (some_inj h).symm
                                exact ⟨rfl, _, _, rh_one rfl rfl, sub_cuts (is := [2]) rfl, rfl, rfl⟩
                              · refine wmh_skip ?_
                                refine wmh_region ?_
                                refine wh_q rfl rfl (q_add1 rfl rfl (by omega)) ?_
                                refine wh_q rfl rfl (q_move rfl) ?_
                                refine wh_nil ?_
                                exact ⟨_, _, (), rfl, h, j + 1, v170 + 1, (by omega), hd, (sub_of ⟨rfl, rfl, rfl, rfl, rfl, rfl, rfl, rfl, rfl, rfl, rfl, rfl, rfl, rfl, rfl, rfl, rfl, rfl, rfl, rfl, rfl, rfl, rfl, rfl, rfl, rfl, rfl, rfl, rfl, rfl, rfl, rfl, rfl, rfl, rfl, rfl, rfl, rfl, rfl, rfl, rfl, rfl, rfl, rfl, trivial⟩), (sub_cuts (is := [1, 1]) rfl)⟩
                            · exfalso; have := of_decide_eq_false hc; omega
                  · exfalso; have := of_decide_eq_false hc; omega
            · obtain ⟨rfl, hp⟩ := hp
              obtain rfl := (some_inj h).symm
              exact hp
          · rintro l _ r h L H hp
            obtain ⟨j, v4, hi, hd, hs, hh⟩ := hp
            refine wmh_sub hs hh ?_
            refine wmh_len (s := 53) rfl (fun hl => ?_)
            obtain _ | ⟨v181, l⟩ := l
            · have hj := drop_end hd
              rw [l43_1.eq_1] at h
              refine wmh_seq ?_
              refine wmh_region ?_
              refine wh_q rfl rfl (q_bin rfl rfl rfl) ?_
              refine wh_nil ?_
              refine wmh_seq ?_
              refine wmh_cond rfl (fun hc => ?_) (fun hc => ?_)
              · exfalso; have := of_decide_eq_true hc; omega
              · refine wmh_exit ?_
                obtain rfl := (some_inj h).symm
                exact ⟨rfl, (sub_of ⟨rfl, trivial⟩), (sub_cuts (is := [0]) rfl)⟩
            · obtain ⟨hat, hj, hd⟩ := at_drop hd
              rw [← hi] at hat
              rw [l43_1.eq_2] at h
              refine wmh_seq ?_
              refine wmh_region ?_
              refine wh_q rfl rfl (q_bin rfl rfl rfl) ?_
              refine wh_nil ?_
              refine wmh_seq ?_
              refine wmh_cond rfl (fun hc => ?_) (fun hc => ?_)
              · refine wmh_skip ?_
                refine wmh_seq ?_
                refine wmh_block ?_
                refine wmh_seq ?_
                refine wmh_region ?_
                refine wh_q rfl rfl (q_index el92 rfl rfl hat) ?_
                refine wh_q rfl rfl (q_load_ref ty98 rfl rfl (pick_all rfl)) ?_
                refine wh_l rfl rfl (oh_alloc (n := 4) (cs := [.sc (.int .i64 0), .sc (.string { data := #[] }), .sc (.int .i64 0), .sc (.int .i64 0)]) ze98 rfl rfl (fun k183 => ?_))
                refine wh_n rfl (oh_store (i := 0) [iA v181.kind, sA v181.name, iA v181.fn, iA v181.n] ty98 rfl rfl rfl rfl rfl rfl rfl ?_)
                refine wh_nil ?_
                refine wmh_seq ?_
                refine wmh_region ?_
                refine wh_q rfl rfl (q_move rfl) ?_
                refine wh_q rfl rfl (q_load_own ty98 rfl (i := 0) rfl (pick_all rfl)) ?_
                obtain ⟨v185, hb881, h⟩ := obind h
                refine wh_l rfl rfl (oh_call1 [] fn85 rfl rfl (fun τ hτ => c85 hb881 τ) ?_)
                refine wh_q rfl rfl (q_not rfl) ?_
                refine wh_nil ?_
                refine wmh_ite rfl h (fun hc882 h => ?_) (fun hc882 h => ?_)
                · refine wmh_seq ?_
                  refine wmh_region ?_
                  refine wh_q rfl rfl (q_assign rfl) ?_
                  refine wh_nil ?_
                  refine wmh_ret ?_
                  obtain rfl := (some_inj h).symm
                  exact ⟨rfl, _, _, rh_one rfl rfl, sub_cuts (is := [1]) rfl, rfl, rfl⟩
                · refine wmh_skip ?_
                  refine wmh_region ?_
                  refine wh_q rfl rfl (q_add1 rfl rfl (by omega)) ?_
                  refine wh_q rfl rfl (q_move rfl) ?_
                  refine wh_nil ?_
                  exact ⟨_, _, (), rfl, h, j + 1, v4 + 1, (by omega), hd, (sub_of ⟨rfl, rfl, rfl, rfl, trivial⟩), (sub_cuts (is := [1]) rfl)⟩
              · exfalso; have := of_decide_eq_false hc; omega
def l47_1 (s : (List UInt8) × Int) : Option ((List UInt8) × Int) :=
match s with
| (v9, v10) =>
if (decide (127 < v10)) then
(u8? (Go.bits .or .u8 (IntKind.u8.wrap v10) 128)) >>= fun v31 =>
(app1? 2 v9 v31) >>= fun v32 =>
(shr? .u64 v10 7) >>= fun v35 =>
l47_1 (v32, v35)
else
some (v9, v10)
partial_fixpoint
def p47 : (List UInt8) → Int → Option (List UInt8)
| v2, v3 =>
(shl? .u64 (IntKind.u64.wrap v3) 1) >>= fun v6 =>
(shr? .i64 v3 63) >>= fun v7 =>
(l47_1 (v2, (Go.bits .xor .u64 v6 (IntKind.u64.wrap v7)))) >>= fun rr25 =>
(match rr25 with
| (v20, v21) =>
(u8? (IntKind.u8.wrap v21)) >>= fun v25 =>
(app1? 2 v20 v25) >>= fun v26 =>
some v26)
theorem c47 [ErrC] {v2 : List UInt8} {v3 : Int} {a1 : Acc} {r : List UInt8} (h : p47 v2 v3 = some r) (τ : Store) : CMH Tryd.prog 47 [accU a1 v2.length, iA v3] [.acc a1 5 1 (List.map u8A v2), .frm τ] (RetX (fun q0 : Acc => accU q0 r.length) (fun q0 : Acc => [.acc q0 5 1 (List.map u8A r)]) τ) := by
  rw [p47.eq_1] at h
  refine ch_enter Tryd.func47 rfl Tryd.ntmps47 rfl ?_
  refine wmh_seq ?_
  refine wmh_region ?_
  refine wh_q rfl rfl (q_assign rfl) ?_
  refine wh_nil ?_
  refine wmh_seq ?_
  refine wmh_region ?_
  refine wh_q rfl rfl (q_move rfl) ?_
  refine wh_q rfl rfl (q_conv Tryd.underlying2 Tryd.underlying162 rfl) ?_
  obtain ⟨v6, hb2, h⟩ := obind h
  refine wh_q rfl rfl (q_shl rfl rfl hb2) ?_
  refine wh_q rfl rfl (q_move rfl) ?_
  obtain ⟨v7, hb3, h⟩ := obind h
  refine wh_q rfl rfl (q_shr rfl rfl hb3) ?_
  refine wh_q rfl rfl (q_conv Tryd.underlying2 Tryd.underlying162 rfl) ?_
  refine wh_q rfl rfl (q_bin rfl rfl rfl) ?_
  refine wh_q rfl rfl (q_assign rfl) ?_
  refine wh_nil ?_
  refine wmh_seq ?_
  obtain ⟨rr25, hr25, h⟩ := obind h
  refine wmh_block ?_
  refine wmh_loop (l47_1.partial_correctness) (fun s L H => match s with | (v9, v10) => ∃ (a8 : Acc) , Sub [(0, accU a8 v9.length), (5, .sc (.int .u64 v10))] L ∧ SubH [.acc a8 5 1 (List.map u8A v9), .frm τ] H) (fun r e L H => match r with | (v20, v21) => ∃ (a19 : Acc), e = .exit 0 ∧ Sub [(0, accU a19 v20.length), (5, .sc (.int .u64 v21))] L ∧ SubH [.acc a19 5 1 (List.map u8A v20), .frm τ] H) hr25 ⟨a1, (sub_of ⟨rfl, rfl, trivial⟩), (sub_cuts (is := [0, 0]) rfl)⟩ ?_ ?_
  · intro e L H hp
    obtain ⟨v20, v21⟩ := rr25
    obtain ⟨a19, rfl, hs, hh⟩ := hp
    refine wmh_sub hs hh ?_
    refine wmh_seq ?_
    refine wmh_region ?_
    refine wh_q rfl rfl (q_move rfl) ?_
    refine wh_q rfl rfl (q_move rfl) ?_
    refine wh_q rfl rfl (q_conv Tryd.underlying162 Tryd.underlying5 rfl) ?_
    obtain ⟨v25, hb28, h⟩ := obind h
    refine wh_q rfl rfl (q_slice_oneL (u8A v25) el22 zel22 rfl (le_eq (u8?_eq hb28)) rfl rfl) ?_
    obtain ⟨v26, hb29, h⟩ := obind h
    refine wh_l rfl rfl (oh_acc1 (i := 0) v25 ap22 ⟨_, Tryd.underlying22⟩ u8A_enc rfl rfl rfl hb29 (fun a27 => ?_))
    refine wh_q rfl rfl (q_assign rfl) ?_
    refine wh_nil ?_
    refine wmh_ret ?_
    obtain rfl := (some_inj h).symm
    exact ⟨_, _, rh_one rfl rfl, sub_cuts (is := [0, 0]) rfl, a27, rfl, rfl⟩
  · rintro l_ ⟨v9, v10⟩ r h L H hp
    obtain ⟨a8, hs, hh⟩ := hp
    refine wmh_sub hs hh ?_
    refine wmh_seq ?_
    refine wmh_seq ?_
    refine wmh_region ?_
    refine wh_q rfl rfl (q_move rfl) ?_
    refine wh_q rfl rfl (q_bin rfl rfl rfl) ?_
    refine wh_nil ?_
    refine wmh_ite rfl h (fun hc30 h => ?_) (fun hc30 h => ?_)
    · refine wmh_skip ?_
      refine wmh_block ?_
      refine wmh_seq ?_
      refine wmh_region ?_
      refine wh_q rfl rfl (q_move rfl) ?_
      refine wh_q rfl rfl (q_move rfl) ?_
      refine wh_q rfl rfl (q_conv Tryd.underlying162 Tryd.underlying5 rfl) ?_
      refine wh_q rfl rfl (q_bin rfl rfl rfl) ?_
      obtain ⟨v31, hb33, h⟩ := obind h
      refine wh_q rfl rfl (q_slice_oneL (u8A v31) el22 zel22 rfl (le_eq (u8?_eq hb33)) rfl rfl) ?_
      obtain ⟨v32, hb34, h⟩ := obind h
      refine wh_l rfl rfl (oh_acc1 (i := 0) v31 ap22 ⟨_, Tryd.underlying22⟩ u8A_enc rfl rfl rfl hb34 (fun a33 => ?_))
      refine wh_q rfl rfl (q_assign rfl) ?_
      refine wh_nil ?_
      refine wmh_region ?_
      refine wh_q rfl rfl (q_move rfl) ?_
      obtain ⟨v35, hb36, h⟩ := obind h
      refine wh_q rfl rfl (q_shr rfl rfl hb36) ?_
      refine wh_q rfl rfl (q_assign rfl) ?_
      refine wh_nil ?_
      exact ⟨(v32, v35), h, a33, (sub_of ⟨rfl, rfl, trivial⟩), (sub_cuts (is := [0, 0]) rfl)⟩
    · refine wmh_exit ?_
      obtain rfl := (some_inj h).symm
      exact ⟨a8, rfl, (sub_of ⟨rfl, rfl, trivial⟩), (sub_cuts (is := [0, 0]) rfl)⟩
def l45_1 : List Int → (List UInt8) → Option (List UInt8)
| [], v5 =>
some v5
| v14 :: l, v5 =>
(p47 v5 v14) >>= fun v17 =>
l45_1 l v17
def p45 : (List UInt8) → (List Int) → Option (List UInt8)
| v2, v3 =>
(l45_1 v3 v2) >>= fun v13 =>
some v13
theorem c45 [ErrC] {v2 : List UInt8} {v3 : List Int} {a1 : Acc} {r : List UInt8} (h : p45 v2 v3 = some r) (τ : Store) : CMH Tryd.prog 45 [accU a1 v2.length, slA 1 iA v3] [.acc a1 5 1 (List.map u8A v2), .frm τ] (RetX (fun q0 : Acc => accU q0 r.length) (fun q0 : Acc => [.acc q0 5 1 (List.map u8A r)]) τ) := by
  rw [p45.eq_1] at h
  refine ch_enter Tryd.func45 rfl Tryd.ntmps45 rfl ?_
  refine wmh_seq ?_
  refine wmh_region ?_
  refine wh_q rfl rfl (q_assign rfl) ?_
  refine wh_nil ?_
  refine wmh_seq ?_
  refine wmh_seq ?_
  refine wmh_region ?_
  refine wh_q rfl rfl (q_move rfl) ?_
  refine wh_q rfl rfl (q_len_slA Tryd.underlying161 rfl) ?_
  refine wh_q rfl rfl (q_move rfl) ?_
  refine wh_nil ?_
  obtain ⟨v13, hr6, h⟩ := obind h
  refine wmh_block ?_
  refine wmh_loopL (fun l s L H => match s with | v5 => ∃ (j : Nat) (v6 : Int) (a4 : Acc) , v6 = (j : Int) ∧ v3.drop j = l ∧ Sub [(0, accU a4 v5.length), (1, slA 1 iA v3), (7, slA 1 iA v3), (8, iA (v3.length : Int)), (9, iA v6)] L ∧ SubH [.acc a4 5 1 (List.map u8A v5), .frm τ] H) (fun r e L H => match r with | v13 => ∃ (a12 : Acc), e = .exit 0 ∧ Sub [(0, accU a12 v13.length)] L ∧ SubH [.acc a12 5 1 (List.map u8A v13), .frm τ] H) hr6 ⟨0, 0, a1, rfl, rfl, (sub_of ⟨rfl, rfl, rfl, rfl, rfl, trivial⟩), (sub_cuts (is := [0, 0]) rfl)⟩ ?_ ?_
  · intro e L H hp
    obtain ⟨a12, rfl, hs, hh⟩ := hp
    refine wmh_sub hs hh ?_
    refine wmh_seq ?_
    refine wmh_region ?_
    refine wh_q rfl rfl (q_move rfl) ?_
    refine wh_q rfl rfl (q_assign rfl) ?_
    refine wh_nil ?_
    refine wmh_ret ?_
    obtain rfl := (some_inj h).symm
    exact ⟨_, _, rh_one rfl rfl, sub_cuts (is := [0, 0]) rfl, a12, rfl, rfl⟩
  · rintro l v5 r h L H hp
    obtain ⟨j, v6, a4, hi, hd, hs, hh⟩ := hp
    refine wmh_sub hs hh ?_
    refine wmh_len (s := 1) rfl (fun hl => ?_)
    obtain _ | ⟨v14, l⟩ := l
    · have hj := drop_end hd
      rw [l45_1.eq_1] at h
      refine wmh_seq ?_
      refine wmh_region ?_
      refine wh_q rfl rfl (q_bin rfl rfl rfl) ?_
      refine wh_nil ?_
      refine wmh_seq ?_
      refine wmh_cond rfl (fun hc => ?_) (fun hc => ?_)
      · exfalso; have := of_decide_eq_true hc; omega
      · refine wmh_exit ?_
        obtain rfl := (some_inj h).symm
        exact ⟨a4, rfl, (sub_of ⟨rfl, trivial⟩), (sub_cuts (is := [0, 0]) rfl)⟩
    · obtain ⟨hat, hj, hd⟩ := at_drop hd
      rw [← hi] at hat
      rw [l45_1.eq_2] at h
      refine wmh_seq ?_
      refine wmh_region ?_
      refine wh_q rfl rfl (q_bin rfl rfl rfl) ?_
      refine wh_nil ?_
      refine wmh_seq ?_
      refine wmh_cond rfl (fun hc => ?_) (fun hc => ?_)
      · refine wmh_skip ?_
        refine wmh_seq ?_
        refine wmh_block ?_
        refine wmh_seq ?_
        refine wmh_region ?_
        refine wh_q rfl rfl (q_index el161 rfl rfl hat) ?_
        refine wh_q rfl rfl (q_load_ref ty3 rfl rfl rfl) ?_
        refine wh_q rfl rfl (q_assign rfl) ?_
        refine wh_nil ?_
        refine wmh_region ?_
        refine wh_q rfl rfl (q_move rfl) ?_
        refine wh_q rfl rfl (q_move rfl) ?_
        obtain ⟨v17, hb8, h⟩ := obind h
        refine wh_l rfl rfl (oh_callX (α := Acc) [0] fn47 rfl rfl (fun τ hτ => c47 hb8 τ) (fun a18 => ?_))
        refine wh_q rfl rfl (q_assign rfl) ?_
        refine wh_nil ?_
        refine wmh_region ?_
        refine wh_q rfl rfl (q_add1 rfl rfl (by omega)) ?_
        refine wh_q rfl rfl (q_move rfl) ?_
        refine wh_nil ?_
        exact ⟨_, _, v17, rfl, h, j + 1, v6 + 1, a18, (by omega), hd, (sub_of ⟨rfl, rfl, rfl, rfl, rfl, trivial⟩), (sub_cuts (is := [0, 0]) rfl)⟩
      · exfalso; have := of_decide_eq_false hc; omega
def p46 : (List UInt8) → ByteArray → Option (List UInt8)
| v2, v3 =>
(p45 v2 [(v3.size : Int)]) >>= fun v8 =>
(appS? 2 v8 v3) >>= fun v10 =>
some v10
theorem c46 [ErrC] {v2 : List UInt8} {v3 : ByteArray} {a1 : Acc} {r : List UInt8} (h : p46 v2 v3 = some r) (τ : Store) : CMH Tryd.prog 46 [accU a1 v2.length, sA v3] [.acc a1 5 1 (List.map u8A v2), .frm τ] (RetX (fun q0 : Acc => accU q0 r.length) (fun q0 : Acc => [.acc q0 5 1 (List.map u8A r)]) τ) := by
  rw [p46.eq_1] at h
  refine ch_enter Tryd.func46 rfl Tryd.ntmps46 rfl ?_
  refine wmh_seq ?_
  refine wmh_region ?_
  refine wh_q rfl rfl (q_assign rfl) ?_
  refine wh_nil ?_
  refine wmh_seq ?_
  refine wmh_region ?_
  refine wh_q rfl rfl (q_move rfl) ?_
  refine wh_q rfl rfl (q_move rfl) ?_
  refine wh_q rfl rfl (q_len_str Tryd.underlying9 rfl) ?_
  refine wh_q rfl rfl (q_slice_oneL (iA (v3.size : Int)) el161 zel161 rfl (Le.refl _) rfl rfl) ?_
  obtain ⟨v8, hb2, h⟩ := obind h
  refine wh_l rfl rfl (oh_callX (α := Acc) [0] fn45 rfl rfl (fun τ hτ => c45 hb2 τ) (fun a9 => ?_))
  refine wh_q rfl rfl (q_move rfl) ?_
  obtain ⟨v10, hb3, h⟩ := obind h
  refine wh_l rfl rfl (oh_acc_str (i := 0) ap22 Tryd.underlying9 rfl rfl rfl hb3 (fun a11 => ?_))
  refine wh_q rfl rfl (q_assign rfl) ?_
  refine wh_nil ?_
  refine wmh_ret ?_
  obtain rfl := (some_inj h).symm
  exact ⟨_, _, rh_one rfl rfl, sub_cuts (is := [0, 0]) rfl, a11, rfl, rfl⟩
def l15_11 : List CAlt → (List UInt8) → Option (List UInt8)
| [], v170 =>
some v170
| v185 :: l, v170 =>
(p45 v170 [v185.take, v185.tag, v185.to]) >>= fun v192 =>
(p47 v192 v185.n) >>= fun v194 =>
l15_11 l v194
def l15_10 : List CVal → (List UInt8) → Option (List UInt8)
| [], v150 =>
some v150
| v196 :: l, v150 =>
(p45 v150 [v196.kind]) >>= fun v203 =>
(p47 v203 v196.n) >>= fun v205 =>
l15_10 l v205
def l15_9 : List CIns → (List UInt8) → Option (List UInt8)
| [], v49 =>
some v49
| v130 :: l, v49 =>
(p45 v49 [v130.op, v130.to, v130.tag, v130.fn]) >>= fun v137 =>
(p47 v137 v130.n) >>= fun v139 =>
(p46 v139 v130.prim) >>= fun v145 =>
(p45 v145 [(v130.vals.length : Int)]) >>= fun v147 =>
(l15_10 v130.vals v147) >>= fun v164 =>
(p45 v164 [(v130.alts.length : Int)]) >>= fun v167 =>
(l15_11 v130.alts v167) >>= fun v184 =>
l15_9 l v184
def l15_2 : List CFun → (List UInt8) → Option (List UInt8)
| [], v33 =>
some v33
| v207 :: l, v33 =>
(p45 v33 [v207.params, v207.regs, v207.at_]) >>= fun v212 =>
l15_2 l v212
def l15_1 : List CTag → (List UInt8) → Option (List UInt8)
| [], v9 =>
some v9
| v214 :: l, v9 =>
(p45 v9 [v214.kind]) >>= fun v223 =>
(p46 v223 v214.name) >>= fun v225 =>
(p45 v225 [v214.fn, v214.n]) >>= fun v227 =>
l15_1 l v227
def p15 : CCode → Option (List UInt8)
| v1 =>
(p45 [(71 : UInt8)] [(v1.tags.length : Int)]) >>= fun v6 =>
(l15_1 v1.tags v6) >>= fun v27 =>
(p45 v27 [(v1.funs.length : Int)]) >>= fun v30 =>
(l15_2 v1.funs v30) >>= fun v43 =>
(p45 v43 [v1.main, (v1.ins.length : Int)]) >>= fun v46 =>
(l15_9 v1.ins v46) >>= fun v129 =>
some v129
theorem c15 [ErrC] {v1 : CCode} {r : List UInt8} (h : p15 v1 = some r) (τ : Store) : CMH Tryd.prog 15 [.ref (CCode.A v1) 0] [.frm τ] (RetX (fun q0 : Acc => accU q0 r.length) (fun q0 : Acc => [.acc q0 5 1 (List.map u8A r)]) τ) := by
  rw [p15.eq_1] at h
  refine ch_enter Tryd.func15 rfl Tryd.ntmps15 rfl ?_
  refine wmh_seq ?_
  refine wmh_region ?_
  refine wh_q rfl rfl (q_assign rfl) ?_
  refine wh_nil ?_
  refine wmh_seq ?_
  refine wmh_region ?_
  refine wh_l rfl rfl (oh_slice_acc u8A (71 : UInt8) el22 zel22 rfl rfl rfl (fun a5 => ?_))
  refine wh_q rfl rfl (q_move rfl) ?_
  refine wh_q rfl rfl (q_nilCheck_ref rfl) ?_
  refine wh_q rfl rfl (q_fieldAddr_ref fl96_0 rfl) ?_
  refine wh_q rfl rfl (q_load_ref ty92 rfl rfl rfl) ?_
  refine wh_q rfl rfl (q_len_slA Tryd.underlying92 rfl) ?_
  refine wh_q rfl rfl (q_slice_oneL (iA (v1.tags.length : Int)) el161 zel161 rfl (Le.refl _) rfl rfl) ?_
  obtain ⟨v6, hb1, h⟩ := obind h
  refine wh_l rfl rfl (oh_callX (α := Acc) [0] fn45 rfl rfl (fun τ hτ => c45 hb1 τ) (fun a7 => ?_))
  refine wh_q rfl rfl (q_assign rfl) ?_
  refine wh_nil ?_
  refine wmh_seq ?_
  refine wmh_seq ?_
  refine wmh_region ?_
  refine wh_q rfl rfl (q_move rfl) ?_
  refine wh_q rfl rfl (q_nilCheck_ref rfl) ?_
  refine wh_q rfl rfl (q_fieldAddr_ref fl96_0 rfl) ?_
  refine wh_q rfl rfl (q_load_ref ty92 rfl rfl rfl) ?_
  refine wh_q rfl rfl (q_len_slA Tryd.underlying92 rfl) ?_
  refine wh_q rfl rfl (q_move rfl) ?_
  refine wh_nil ?_
  obtain ⟨v27, hr20, h⟩ := obind h
  refine wmh_block ?_
  refine wmh_loopL (fun l s L H => match s with | v9 => ∃ (j : Nat) (v10 : Int) (a8 : Acc) , v10 = (j : Int) ∧ v1.tags.drop j = l ∧ Sub [(0, .ref (CCode.A v1) 0), (3, accU a8 v9.length), (18, slA 4 CTag.A v1.tags), (25, slA 4 CTag.A v1.tags), (26, iA (v1.tags.length : Int)), (27, iA v10)] L ∧ SubH [.acc a8 5 1 (List.map u8A v9), .frm τ] H) (fun r e L H => match r with | v27 => ∃ (a26 : Acc), e = .exit 0 ∧ Sub [(0, .ref (CCode.A v1) 0), (3, accU a26 v27.length)] L ∧ SubH [.acc a26 5 1 (List.map u8A v27), .frm τ] H) hr20 ⟨0, 0, a7, rfl, rfl, (sub_of ⟨rfl, rfl, rfl, rfl, rfl, rfl, trivial⟩), (sub_cuts (is := [0, 0]) rfl)⟩ ?_ ?_
  · intro e L H hp
    obtain ⟨a26, rfl, hs, hh⟩ := hp
    refine wmh_sub hs hh ?_
    refine wmh_seq ?_
    refine wmh_region ?_
    refine wh_q rfl rfl (q_move rfl) ?_
    refine wh_q rfl rfl (q_move rfl) ?_
    refine wh_q rfl rfl (q_nilCheck_ref rfl) ?_
    refine wh_q rfl rfl (q_fieldAddr_ref fl96_1 rfl) ?_
    refine wh_q rfl rfl (q_load_ref ty93 rfl rfl rfl) ?_
    refine wh_q rfl rfl (q_len_slA Tryd.underlying93 rfl) ?_
    refine wh_q rfl rfl (q_slice_oneL (iA (v1.funs.length : Int)) el161 zel161 rfl (Le.refl _) rfl rfl) ?_
    obtain ⟨v30, hb22, h⟩ := obind h
    refine wh_l rfl rfl (oh_callX (α := Acc) [0] fn45 rfl rfl (fun τ hτ => c45 hb22 τ) (fun a31 => ?_))
    refine wh_q rfl rfl (q_assign rfl) ?_
    refine wh_nil ?_
    refine wmh_seq ?_
    refine wmh_seq ?_
    refine wmh_region ?_
    refine wh_q rfl rfl (q_move rfl) ?_
    refine wh_q rfl rfl (q_nilCheck_ref rfl) ?_
    refine wh_q rfl rfl (q_fieldAddr_ref fl96_1 rfl) ?_
    refine wh_q rfl rfl (q_load_ref ty93 rfl rfl rfl) ?_
    refine wh_q rfl rfl (q_len_slA Tryd.underlying93 rfl) ?_
    refine wh_q rfl rfl (q_move rfl) ?_
    refine wh_nil ?_
    obtain ⟨v43, hr29, h⟩ := obind h
    refine wmh_block ?_
    refine wmh_loopL (fun l s L H => match s with | v33 => ∃ (j : Nat) (v34 : Int) (a32 : Acc) , v34 = (j : Int) ∧ v1.funs.drop j = l ∧ Sub [(0, .ref (CCode.A v1) 0), (3, accU a32 v33.length), (50, slA 3 CFun.A v1.funs), (57, slA 3 CFun.A v1.funs), (58, iA (v1.funs.length : Int)), (59, iA v34)] L ∧ SubH [.acc a32 5 1 (List.map u8A v33), .frm τ] H) (fun r e L H => match r with | v43 => ∃ (a42 : Acc), e = .exit 2 ∧ Sub [(0, .ref (CCode.A v1) 0), (3, accU a42 v43.length)] L ∧ SubH [.acc a42 5 1 (List.map u8A v43), .frm τ] H) hr29 ⟨0, 0, a31, rfl, rfl, (sub_of ⟨rfl, rfl, rfl, rfl, rfl, rfl, trivial⟩), (sub_cuts (is := [0, 0]) rfl)⟩ ?_ ?_
    · intro e L H hp
      obtain ⟨a42, rfl, hs, hh⟩ := hp
      refine wmh_sub hs hh ?_
      refine wmh_seq ?_
      refine wmh_drawn _ [11] [0, 1, 2, 3, 4, 5, 6, 7, 8, 9, 10, 11, 12] mixed (by kernel_rfl) (sub_cuts (is := []) rfl) ?_
      refine vh_q rfl rfl rfl rfl (q_move rfl) ?_
      refine vh_q rfl rfl rfl rfl (q_move rfl) ?_
      refine vh_q rfl rfl rfl rfl (q_nilCheck_ref rfl) ?_
      refine vh_q rfl rfl rfl rfl (q_fieldAddr_ref fl96_3 rfl) ?_
      refine vh_q rfl rfl rfl rfl (q_load_ref ty3 rfl rfl rfl) ?_
      refine vh_q rfl rfl rfl rfl (q_move rfl) ?_
      refine vh_q rfl rfl rfl rfl (q_nilCheck_ref rfl) ?_
      refine vh_q rfl rfl rfl rfl (q_fieldAddr_ref fl96_2 rfl) ?_
      refine vh_q rfl rfl rfl rfl (q_load_ref ty94 rfl rfl rfl) ?_
      refine vh_q rfl rfl rfl rfl (q_len_slA Tryd.underlying94 rfl) ?_
      refine vh_q rfl rfl rfl rfl (q_slice_immL [iA v1.main, iA (v1.ins.length : Int)] [iA v1.main, iA (v1.ins.length : Int)] el161 zel161 rfl (by exact rfl) rfl rfl rfl rfl (LeAll.cons (Le.refl _) (LeAll.cons (Le.refl _) LeAll.nil))) ?_
      obtain ⟨v46, hb31, h⟩ := obind h
      refine vh_l rfl rfl rfl rfl (oh_callX (α := Acc) [0] fn45 rfl rfl (fun τ hτ => c45 hb31 τ) (fun a47 => ⟨.inr (sub_cuts (is := []) rfl), ?_⟩))
      refine vh_q rfl rfl rfl rfl (q_assign rfl) ?_
      refine vh_nil ?_
      refine wmh_seq ?_
      refine wmh_seq ?_
      refine wmh_region ?_
      refine wh_q rfl rfl (q_move rfl) ?_
      refine wh_q rfl rfl (q_nilCheck_ref rfl) ?_
      refine wh_q rfl rfl (q_fieldAddr_ref fl96_2 rfl) ?_
      refine wh_q rfl rfl (q_load_ref ty94 rfl rfl rfl) ?_
      refine wh_q rfl rfl (q_len_slA Tryd.underlying94 rfl) ?_
      refine wh_q rfl rfl (q_move rfl) ?_
      refine wh_nil ?_
      obtain ⟨v129, hr164, h⟩ := obind h
      refine wmh_block ?_
      refine wmh_loopL (fun l s L H => match s with | v49 => ∃ (j : Nat) (v50 : Int) (a48 : Acc) , v50 = (j : Int) ∧ v1.ins.drop j = l ∧ Sub [(3, accU a48 v49.length), (81, slA 8 CIns.A v1.ins), (88, slA 8 CIns.A v1.ins), (89, iA (v1.ins.length : Int)), (90, iA v50)] L ∧ SubH [.acc a48 5 1 (List.map u8A v49), .frm τ] H) (fun r e L H => match r with | v129 => ∃ (a128 : Acc), e = .exit 4 ∧ Sub [(3, accU a128 v129.length)] L ∧ SubH [.acc a128 5 1 (List.map u8A v129), .frm τ] H) hr164 ⟨0, 0, a47, rfl, rfl, (sub_of ⟨rfl, rfl, rfl, rfl, rfl, trivial⟩), (sub_cuts (is := [0, 0]) rfl)⟩ ?_ ?_
      · intro e L H hp
        obtain ⟨a128, rfl, hs, hh⟩ := hp
        refine wmh_sub hs hh ?_
        refine wmh_seq ?_
        refine wmh_region ?_
        refine wh_q rfl rfl (q_move rfl) ?_
        refine wh_q rfl rfl (q_assign rfl) ?_
        refine wh_nil ?_
        refine wmh_ret ?_
        obtain rfl := (some_inj h).symm
        exact ⟨_, _, rh_one rfl rfl, sub_cuts (is := [0, 0]) rfl, a128, rfl, rfl⟩
      · rintro l v49 r h L H hp
        obtain ⟨j, v50, a48, hi, hd, hs, hh⟩ := hp
        refine wmh_sub hs hh ?_
        refine wmh_len (s := 81) rfl (fun hl => ?_)
        obtain _ | ⟨v130, l⟩ := l
        · have hj := drop_end hd
          rw [l15_9.eq_1] at h
          refine wmh_seq ?_
          refine wmh_region ?_
          refine wh_q rfl rfl (q_bin rfl rfl rfl) ?_
          refine wh_nil ?_
          refine wmh_seq ?_
          refine wmh_cond rfl (fun hc => ?_) (fun hc => ?_)
          · exfalso; have := of_decide_eq_true hc; omega
          · refine wmh_exit ?_
            obtain rfl := (some_inj h).symm
            exact ⟨a48, rfl, (sub_of ⟨rfl, trivial⟩), (sub_cuts (is := [0, 0]) rfl)⟩
        · obtain ⟨hat, hj, hd⟩ := at_drop hd
          rw [← hi] at hat
          rw [l15_9.eq_2] at h
          refine wmh_seq ?_
          refine wmh_region ?_
          refine wh_q rfl rfl (q_bin rfl rfl rfl) ?_
          refine wh_nil ?_
          refine wmh_seq ?_
          refine wmh_cond rfl (fun hc => ?_) (fun hc => ?_)
          · refine wmh_skip ?_
            refine wmh_seq ?_
            refine wmh_block ?_
            refine wmh_seq ?_
            refine wmh_region ?_
            refine wh_q rfl rfl (q_index el94 rfl rfl hat) ?_
            refine wh_q rfl rfl (q_load_ref ty105 rfl rfl (pick_all rfl)) ?_
            refine wh_l rfl rfl (oh_alloc (n := 8) (cs := [.sc (.int .i64 0), .sc (.int .i64 0), .sc (.int .i64 0), .sc (.int .i64 0), .sc (.int .i64 0), .sc (.string { data := #[] }), .sc (.slice none 0 0), .sc (.slice none 0 0)]) ze105 rfl rfl (fun k132 => ?_))
            refine wh_n rfl (oh_store (i := 0) [iA v130.op, iA v130.to, iA v130.tag, iA v130.fn, iA v130.n, sA v130.prim, slA 2 CVal.A v130.vals, slA 4 CAlt.A v130.alts] ty105 rfl rfl rfl rfl rfl rfl rfl ?_)
            refine wh_nil ?_
            refine wmh_seq ?_
            refine wmh_drawn _ [10, 13] [0, 1, 2, 3, 4, 5, 6, 7, 8, 9, 11, 12, 10, 13, 14] mixed (by kernel_rfl) (sub_cuts (is := [0]) rfl) ?_
            refine vh_q rfl rfl rfl rfl (q_move rfl) ?_
            refine vh_q rfl rfl rfl rfl (q_fieldAddr_own fl105_0 rfl) ?_
            refine vh_q rfl rfl rfl rfl (q_load_own ty3 rfl (i := 0) rfl rfl) ?_
            refine vh_q rfl rfl rfl rfl (q_fieldAddr_own fl105_1 rfl) ?_
            refine vh_q rfl rfl rfl rfl (q_load_own ty3 rfl (i := 0) rfl rfl) ?_
            refine vh_q rfl rfl rfl rfl (q_fieldAddr_own fl105_2 rfl) ?_
            refine vh_q rfl rfl rfl rfl (q_load_own ty3 rfl (i := 0) rfl rfl) ?_
            refine vh_q rfl rfl rfl rfl (q_fieldAddr_own fl105_3 rfl) ?_
            refine vh_q rfl rfl rfl rfl (q_load_own ty3 rfl (i := 0) rfl rfl) ?_
            refine vh_q rfl rfl rfl rfl (q_slice_immL [iA v130.op, iA v130.to, iA v130.tag, iA v130.fn] [iA v130.op, iA v130.to, iA v130.tag, iA v130.fn] el161 zel161 rfl (by exact rfl) rfl rfl rfl rfl (LeAll.cons (Le.refl _) (LeAll.cons (Le.refl _) (LeAll.cons (Le.refl _) (LeAll.cons (Le.refl _) LeAll.nil))))) ?_
            refine vh_q rfl rfl rfl rfl (q_fieldAddr_own fl105_4 rfl) ?_
            refine vh_q rfl rfl rfl rfl (q_load_own ty2 rfl (i := 0) rfl rfl) ?_
            obtain ⟨v137, hb167, h⟩ := obind h
            refine vh_l rfl rfl rfl rfl (oh_callX (α := Acc) [1] fn45 rfl rfl (fun τ hτ => c45 hb167 τ) (fun a138 => ⟨.inr (sub_cuts (is := [1]) rfl), ?_⟩))
            obtain ⟨v139, hb168, h⟩ := obind h
            refine vh_l rfl rfl rfl rfl (oh_callX (α := Acc) [0] fn47 rfl rfl (fun τ hτ => c47 hb168 τ) (fun a140 => ⟨.inr (sub_cuts (is := [1]) rfl), ?_⟩))
            refine vh_q rfl rfl rfl rfl (q_assign rfl) ?_
            refine vh_nil ?_
            refine wmh_seq ?_
            refine wmh_drawn _ [3, 8] [0, 1, 2, 4, 5, 6, 7, 3, 8, 9] mixed (by kernel_rfl) (sub_cuts (is := [1]) rfl) ?_
            refine vh_q rfl rfl rfl rfl (q_move rfl) ?_
            refine vh_q rfl rfl rfl rfl (q_fieldAddr_own fl105_5 rfl) ?_
            refine vh_q rfl rfl rfl rfl (q_load_own ty9 rfl (i := 0) rfl rfl) ?_
            refine vh_q rfl rfl rfl rfl (q_fieldAddr_own fl105_6 rfl) ?_
            refine vh_q rfl rfl rfl rfl (q_load_own ty102 rfl (i := 0) rfl rfl) ?_
            refine vh_q rfl rfl rfl rfl (q_len_slA Tryd.underlying102 rfl) ?_
            refine vh_q rfl rfl rfl rfl (q_slice_oneL (iA (v130.vals.length : Int)) el161 zel161 rfl (Le.refl _) rfl rfl) ?_
            obtain ⟨v145, hb171, h⟩ := obind h
            refine vh_l rfl rfl rfl rfl (oh_callX (α := Acc) [0] fn46 rfl rfl (fun τ hτ => c46 hb171 τ) (fun a146 => ⟨.inr (sub_cuts (is := [1]) rfl), ?_⟩))
            obtain ⟨v147, hb172, h⟩ := obind h
            refine vh_l rfl rfl rfl rfl (oh_callX (α := Acc) [0] fn45 rfl rfl (fun τ hτ => c45 hb172 τ) (fun a148 => ⟨.inr (sub_cuts (is := [1]) rfl), ?_⟩))
            refine vh_q rfl rfl rfl rfl (q_assign rfl) ?_
            refine vh_nil ?_
            refine wmh_seq ?_
            refine wmh_seq ?_
            refine wmh_region ?_
            refine wh_q rfl rfl (q_fieldAddr_own fl105_6 rfl) ?_
            refine wh_q rfl rfl (q_load_own ty102 rfl (i := 1) rfl rfl) ?_
            refine wh_q rfl rfl (q_len_slA Tryd.underlying102 rfl) ?_
            refine wh_q rfl rfl (q_move rfl) ?_
            refine wh_nil ?_
            obtain ⟨v164, hr185, h⟩ := obind h
            refine wmh_block ?_
            refine wmh_loopL (fun l s L H => match s with | v150 => ∃ (j : Nat) (v151 : Int) (a149 : Acc) , v151 = (j : Int) ∧ v130.vals.drop j = l ∧ Sub [(3, accU a149 v150.length), (9, .sc (.pointer (some ⟨k132, 0, none⟩))), (81, slA 8 CIns.A v1.ins), (88, slA 8 CIns.A v1.ins), (89, iA (v1.ins.length : Int)), (90, iA v50), (113, slA 2 CVal.A v130.vals), (118, slA 2 CVal.A v130.vals), (119, iA (v130.vals.length : Int)), (120, iA v151)] L ∧ SubH [.acc a149 5 1 (List.map u8A v150), .blk k132 (.cells 105 8 [iA v130.op, iA v130.to, iA v130.tag, iA v130.fn, iA v130.n, sA v130.prim, slA 2 CVal.A v130.vals, slA 4 CAlt.A v130.alts]), .frm τ] H) (fun r e L H => match r with | v164 => ∃ (a163 : Acc), e = .exit 6 ∧ Sub [(3, accU a163 v164.length), (9, .sc (.pointer (some ⟨k132, 0, none⟩))), (81, slA 8 CIns.A v1.ins), (88, slA 8 CIns.A v1.ins), (89, iA (v1.ins.length : Int)), (90, iA v50)] L ∧ SubH [.acc a163 5 1 (List.map u8A v164), .blk k132 (.cells 105 8 [iA v130.op, iA v130.to, iA v130.tag, iA v130.fn, iA v130.n, sA v130.prim, slA 2 CVal.A v130.vals, slA 4 CAlt.A v130.alts]), .frm τ] H) hr185 ⟨0, 0, a148, rfl, rfl, (sub_of ⟨rfl, rfl, rfl, rfl, rfl, rfl, rfl, rfl, rfl, rfl, trivial⟩), (sub_cuts (is := [0, 0, 0]) rfl)⟩ ?_ ?_
            · intro e L H hp
              obtain ⟨a163, rfl, hs, hh⟩ := hp
              refine wmh_sub hs hh ?_
              refine wmh_seq ?_
              refine wmh_region ?_
              refine wh_q rfl rfl (q_move rfl) ?_
              refine wh_q rfl rfl (q_fieldAddr_own fl105_7 rfl) ?_
              refine wh_q rfl rfl (q_load_own ty103 rfl (i := 1) rfl rfl) ?_
              refine wh_q rfl rfl (q_len_slA Tryd.underlying103 rfl) ?_
              refine wh_q rfl rfl (q_slice_oneL (iA (v130.alts.length : Int)) el161 zel161 rfl (Le.refl _) rfl rfl) ?_
              obtain ⟨v167, hb187, h⟩ := obind h
              refine wh_l rfl rfl (oh_callX (α := Acc) [0] fn45 rfl rfl (fun τ hτ => c45 hb187 τ) (fun a168 => ?_))
              refine wh_q rfl rfl (q_assign rfl) ?_
              refine wh_nil ?_
              refine wmh_seq ?_
              refine wmh_region ?_
              refine wh_q rfl rfl (q_fieldAddr_own fl105_7 rfl) ?_
              refine wh_q rfl rfl (q_load_own ty103 rfl (i := 1) rfl rfl) ?_
              refine wh_q rfl rfl (q_len_slA Tryd.underlying103 rfl) ?_
              refine wh_q rfl rfl (q_move rfl) ?_
              refine wh_nil ?_
              obtain ⟨v184, hr200, h⟩ := obind h
              refine wmh_block ?_
              refine wmh_loopL (fun l s L H => match s with | v170 => ∃ (j : Nat) (v171 : Int) (a169 : Acc) , v171 = (j : Int) ∧ v130.alts.drop j = l ∧ Sub [(3, accU a169 v170.length), (81, slA 8 CIns.A v1.ins), (88, slA 8 CIns.A v1.ins), (89, iA (v1.ins.length : Int)), (90, iA v50), (135, slA 4 CAlt.A v130.alts), (140, slA 4 CAlt.A v130.alts), (141, iA (v130.alts.length : Int)), (142, iA v171)] L ∧ SubH [.acc a169 5 1 (List.map u8A v170), .frm τ] H) (fun r e L H => match r with | v184 => ∃ (a183 : Acc), e = .exit 8 ∧ Sub [(3, accU a183 v184.length), (81, slA 8 CIns.A v1.ins), (88, slA 8 CIns.A v1.ins), (89, iA (v1.ins.length : Int)), (90, iA v50)] L ∧ SubH [.acc a183 5 1 (List.map u8A v184), .frm τ] H) hr200 ⟨0, 0, a168, rfl, rfl, (sub_of ⟨rfl, rfl, rfl, rfl, rfl, rfl, rfl, rfl, rfl, trivial⟩), (sub_cuts (is := [0, 1]) rfl)⟩ ?_ ?_
              · intro e L H hp
                obtain ⟨a183, rfl, hs, hh⟩ := hp
                refine wmh_sub hs hh ?_
                refine wmh_region ?_
                refine wh_q rfl rfl (q_add1 rfl rfl (by omega)) ?_
                refine wh_q rfl rfl (q_move rfl) ?_
                refine wh_nil ?_
                exact ⟨_, _, v184, rfl, h, j + 1, v50 + 1, a183, (by omega), hd, (sub_of ⟨rfl, rfl, rfl, rfl, rfl, trivial⟩), (sub_cuts (is := [0, 0]) rfl)⟩
              · rintro l v170 r h L H hp
                obtain ⟨j, v171, a169, hi, hd, hs, hh⟩ := hp
                refine wmh_sub hs hh ?_
                refine wmh_len (s := 135) rfl (fun hl => ?_)
                obtain _ | ⟨v185, l⟩ := l
                · have hj := drop_end hd
                  rw [l15_11.eq_1] at h
                  refine wmh_seq ?_
                  refine wmh_region ?_
                  refine wh_q rfl rfl (q_bin rfl rfl rfl) ?_
                  refine wh_nil ?_
                  refine wmh_seq ?_
                  refine wmh_cond rfl (fun hc => ?_) (fun hc => ?_)
                  · exfalso; have := of_decide_eq_true hc; omega
                  · refine wmh_exit ?_
                    obtain rfl := (some_inj h).symm
                    exact ⟨a169, rfl, (sub_of ⟨rfl, rfl, rfl, rfl, rfl, trivial⟩), (sub_cuts (is := [0, 0]) rfl)⟩
                · obtain ⟨hat, hj, hd⟩ := at_drop hd
                  rw [← hi] at hat
                  rw [l15_11.eq_2] at h
                  refine wmh_seq ?_
                  refine wmh_region ?_
                  refine wh_q rfl rfl (q_bin rfl rfl rfl) ?_
                  refine wh_nil ?_
                  refine wmh_seq ?_
                  refine wmh_cond rfl (fun hc => ?_) (fun hc => ?_)
                  · refine wmh_skip ?_
                    refine wmh_seq ?_
                    refine wmh_block ?_
                    refine wmh_seq ?_
                    refine wmh_region ?_
                    refine wh_q rfl rfl (q_index el103 rfl rfl hat) ?_
                    refine wh_q rfl rfl (q_load_ref ty110 rfl rfl (pick_all rfl)) ?_
                    refine wh_l rfl rfl (oh_alloc (n := 4) (cs := [.sc (.int .i64 0), .sc (.int .i64 0), .sc (.int .i64 0), .sc (.int .i64 0)]) ze110 rfl rfl (fun k187 => ?_))
                    refine wh_n rfl (oh_store (i := 0) [iA v185.take, iA v185.tag, iA v185.to, iA v185.n] ty110 rfl rfl rfl rfl rfl rfl rfl ?_)
                    refine wh_nil ?_
                    refine wmh_drawn _ [8, 11] [0, 1, 2, 3, 4, 5, 6, 7, 9, 10, 8, 11, 12] mixed (by kernel_rfl) (sub_cuts (is := [0]) rfl) ?_
                    refine vh_q rfl rfl rfl rfl (q_move rfl) ?_
                    refine vh_q rfl rfl rfl rfl (q_fieldAddr_own fl110_0 rfl) ?_
                    refine vh_q rfl rfl rfl rfl (q_load_own ty3 rfl (i := 0) rfl rfl) ?_
                    refine vh_q rfl rfl rfl rfl (q_fieldAddr_own fl110_1 rfl) ?_
                    refine vh_q rfl rfl rfl rfl (q_load_own ty3 rfl (i := 0) rfl rfl) ?_
                    refine vh_q rfl rfl rfl rfl (q_fieldAddr_own fl110_2 rfl) ?_
                    refine vh_q rfl rfl rfl rfl (q_load_own ty3 rfl (i := 0) rfl rfl) ?_
                    refine vh_q rfl rfl rfl rfl (q_slice_immL [iA v185.take, iA v185.tag, iA v185.to] [iA v185.take, iA v185.tag, iA v185.to] el161 zel161 rfl (by exact rfl) rfl rfl rfl rfl (LeAll.cons (Le.refl _) (LeAll.cons (Le.refl _) (LeAll.cons (Le.refl _) LeAll.nil)))) ?_
                    refine vh_q rfl rfl rfl rfl (q_fieldAddr_own fl110_3 rfl) ?_
                    refine vh_q rfl rfl rfl rfl (q_load_own ty2 rfl (i := 0) rfl rfl) ?_
                    obtain ⟨v192, hb203, h⟩ := obind h
                    refine vh_l rfl rfl rfl rfl (oh_callX (α := Acc) [1] fn45 rfl rfl (fun τ hτ => c45 hb203 τ) (fun a193 => ⟨.inr (sub_cuts (is := [1]) rfl), ?_⟩))
                    obtain ⟨v194, hb204, h⟩ := obind h
                    refine vh_l rfl rfl rfl rfl (oh_callX (α := Acc) [0] fn47 rfl rfl (fun τ hτ => c47 hb204 τ) (fun a195 => ⟨.inr (sub_cuts (is := [1]) rfl), ?_⟩))
                    refine vh_q rfl rfl rfl rfl (q_assign rfl) ?_
                    refine vh_nil ?_
                    refine wmh_region ?_
                    refine wh_q rfl rfl (q_add1 rfl rfl (by omega)) ?_
                    refine wh_q rfl rfl (q_move rfl) ?_
                    refine wh_nil ?_
                    exact ⟨_, _, v194, rfl, h, j + 1, v171 + 1, a195, (by omega), hd, (sub_of ⟨rfl, rfl, rfl, rfl, rfl, rfl, rfl, rfl, rfl, trivial⟩), (sub_cuts (is := [0, 1]) rfl)⟩
                  · exfalso; have := of_decide_eq_false hc; omega
            · rintro l v150 r h L H hp
              obtain ⟨j, v151, a149, hi, hd, hs, hh⟩ := hp
              refine wmh_sub hs hh ?_
              refine wmh_len (s := 113) rfl (fun hl => ?_)
              obtain _ | ⟨v196, l⟩ := l
              · have hj := drop_end hd
                rw [l15_10.eq_1] at h
                refine wmh_seq ?_
                refine wmh_region ?_
                refine wh_q rfl rfl (q_bin rfl rfl rfl) ?_
                refine wh_nil ?_
                refine wmh_seq ?_
                refine wmh_cond rfl (fun hc => ?_) (fun hc => ?_)
                · exfalso; have := of_decide_eq_true hc; omega
                · refine wmh_exit ?_
                  obtain rfl := (some_inj h).symm
                  exact ⟨a149, rfl, (sub_of ⟨rfl, rfl, rfl, rfl, rfl, rfl, trivial⟩), (sub_cuts (is := [0, 0, 0]) rfl)⟩
              · obtain ⟨hat, hj, hd⟩ := at_drop hd
                rw [← hi] at hat
                rw [l15_10.eq_2] at h
                refine wmh_seq ?_
                refine wmh_region ?_
                refine wh_q rfl rfl (q_bin rfl rfl rfl) ?_
                refine wh_nil ?_
                refine wmh_seq ?_
                refine wmh_cond rfl (fun hc => ?_) (fun hc => ?_)
                · refine wmh_skip ?_
                  refine wmh_seq ?_
                  refine wmh_block ?_
                  refine wmh_seq ?_
                  refine wmh_region ?_
                  refine wh_q rfl rfl (q_index el102 rfl rfl hat) ?_
                  refine wh_q rfl rfl (q_load_ref ty108 rfl rfl (pick_all rfl)) ?_
                  refine wh_l rfl rfl (oh_alloc (n := 2) (cs := [.sc (.int .i64 0), .sc (.int .i64 0)]) ze108 rfl rfl (fun k198 => ?_))
                  refine wh_n rfl (oh_store (i := 0) [iA v196.kind, iA v196.n] ty108 rfl rfl rfl rfl rfl rfl rfl ?_)
                  refine wh_nil ?_
                  refine wmh_drawn _ [4, 7] [0, 1, 2, 3, 5, 6, 4, 7, 8] mixed (by kernel_rfl) (sub_cuts (is := [0]) rfl) ?_
                  refine vh_q rfl rfl rfl rfl (q_move rfl) ?_
                  refine vh_q rfl rfl rfl rfl (q_fieldAddr_own fl108_0 rfl) ?_
                  refine vh_q rfl rfl rfl rfl (q_load_own ty3 rfl (i := 0) rfl rfl) ?_
                  refine vh_q rfl rfl rfl rfl (q_slice_oneL (iA v196.kind) el161 zel161 rfl (Le.refl _) rfl rfl) ?_
                  refine vh_q rfl rfl rfl rfl (q_fieldAddr_own fl108_1 rfl) ?_
                  refine vh_q rfl rfl rfl rfl (q_load_own ty2 rfl (i := 0) rfl rfl) ?_
                  obtain ⟨v203, hb207, h⟩ := obind h
                  refine vh_l rfl rfl rfl rfl (oh_callX (α := Acc) [1] fn45 rfl rfl (fun τ hτ => c45 hb207 τ) (fun a204 => ⟨.inr (sub_cuts (is := [1]) rfl), ?_⟩))
                  obtain ⟨v205, hb208, h⟩ := obind h
                  refine vh_l rfl rfl rfl rfl (oh_callX (α := Acc) [0] fn47 rfl rfl (fun τ hτ => c47 hb208 τ) (fun a206 => ⟨.inr (sub_cuts (is := [1]) rfl), ?_⟩))
                  refine vh_q rfl rfl rfl rfl (q_assign rfl) ?_
                  refine vh_nil ?_
                  refine wmh_region ?_
                  refine wh_q rfl rfl (q_add1 rfl rfl (by omega)) ?_
                  refine wh_q rfl rfl (q_move rfl) ?_
                  refine wh_nil ?_
                  exact ⟨_, _, v205, rfl, h, j + 1, v151 + 1, a206, (by omega), hd, (sub_of ⟨rfl, rfl, rfl, rfl, rfl, rfl, rfl, rfl, rfl, rfl, trivial⟩), (sub_cuts (is := [0, 1, 1]) rfl)⟩
                · exfalso; have := of_decide_eq_false hc; omega
          · exfalso; have := of_decide_eq_false hc; omega
    · rintro l v33 r h L H hp
      obtain ⟨j, v34, a32, hi, hd, hs, hh⟩ := hp
      refine wmh_sub hs hh ?_
      refine wmh_len (s := 50) rfl (fun hl => ?_)
      obtain _ | ⟨v207, l⟩ := l
      · have hj := drop_end hd
        rw [l15_2.eq_1] at h
        refine wmh_seq ?_
        refine wmh_region ?_
        refine wh_q rfl rfl (q_bin rfl rfl rfl) ?_
        refine wh_nil ?_
        refine wmh_seq ?_
        refine wmh_cond rfl (fun hc => ?_) (fun hc => ?_)
        · exfalso; have := of_decide_eq_true hc; omega
        · refine wmh_exit ?_
          obtain rfl := (some_inj h).symm
          exact ⟨a32, rfl, (sub_of ⟨rfl, rfl, trivial⟩), (sub_cuts (is := [0, 0]) rfl)⟩
      · obtain ⟨hat, hj, hd⟩ := at_drop hd
        rw [← hi] at hat
        rw [l15_2.eq_2] at h
        refine wmh_seq ?_
        refine wmh_region ?_
        refine wh_q rfl rfl (q_bin rfl rfl rfl) ?_
        refine wh_nil ?_
        refine wmh_seq ?_
        refine wmh_cond rfl (fun hc => ?_) (fun hc => ?_)
        · refine wmh_skip ?_
          refine wmh_seq ?_
          refine wmh_block ?_
          refine wmh_seq ?_
          refine wmh_region ?_
          refine wh_q rfl rfl (q_index el93 rfl rfl hat) ?_
          refine wh_q rfl rfl (q_load_ref ty101 rfl rfl (pick_all rfl)) ?_
          refine wh_l rfl rfl (oh_alloc (n := 3) (cs := [.sc (.int .i64 0), .sc (.int .i64 0), .sc (.int .i64 0)]) ze101 rfl rfl (fun k209 => ?_))
          refine wh_n rfl (oh_store (i := 0) [iA v207.params, iA v207.regs, iA v207.at_] ty101 rfl rfl rfl rfl rfl rfl rfl ?_)
          refine wh_nil ?_
          refine wmh_region ?_
          refine wh_q rfl rfl (q_move rfl) ?_
          refine wh_q rfl rfl (q_fieldAddr_own fl101_0 rfl) ?_
          refine wh_q rfl rfl (q_load_own ty3 rfl (i := 0) rfl rfl) ?_
          refine wh_q rfl rfl (q_fieldAddr_own fl101_1 rfl) ?_
          refine wh_q rfl rfl (q_load_own ty3 rfl (i := 0) rfl rfl) ?_
          refine wh_q rfl rfl (q_fieldAddr_own fl101_2 rfl) ?_
          refine wh_q rfl rfl (q_load_own ty3 rfl (i := 0) rfl rfl) ?_
          refine wh_q rfl rfl (q_slice_immL [iA v207.params, iA v207.regs, iA v207.at_] [iA v207.params, iA v207.regs, iA v207.at_] el161 zel161 rfl (by exact rfl) rfl rfl rfl rfl (LeAll.cons (Le.refl _) (LeAll.cons (Le.refl _) (LeAll.cons (Le.refl _) LeAll.nil)))) ?_
          obtain ⟨v212, hb210, h⟩ := obind h
          refine wh_l rfl rfl (oh_callX (α := Acc) [1] fn45 rfl rfl (fun τ hτ => c45 hb210 τ) (fun a213 => ?_))
          refine wh_q rfl rfl (q_assign rfl) ?_
          refine wh_nil ?_
          refine wmh_region ?_
          refine wh_q rfl rfl (q_add1 rfl rfl (by omega)) ?_
          refine wh_q rfl rfl (q_move rfl) ?_
          refine wh_nil ?_
          exact ⟨_, _, v212, rfl, h, j + 1, v34 + 1, a213, (by omega), hd, (sub_of ⟨rfl, rfl, rfl, rfl, rfl, rfl, trivial⟩), (sub_cuts (is := [0, 1]) rfl)⟩
        · exfalso; have := of_decide_eq_false hc; omega
  · rintro l v9 r h L H hp
    obtain ⟨j, v10, a8, hi, hd, hs, hh⟩ := hp
    refine wmh_sub hs hh ?_
    refine wmh_len (s := 18) rfl (fun hl => ?_)
    obtain _ | ⟨v214, l⟩ := l
    · have hj := drop_end hd
      rw [l15_1.eq_1] at h
      refine wmh_seq ?_
      refine wmh_region ?_
      refine wh_q rfl rfl (q_bin rfl rfl rfl) ?_
      refine wh_nil ?_
      refine wmh_seq ?_
      refine wmh_cond rfl (fun hc => ?_) (fun hc => ?_)
      · exfalso; have := of_decide_eq_true hc; omega
      · refine wmh_exit ?_
        obtain rfl := (some_inj h).symm
        exact ⟨a8, rfl, (sub_of ⟨rfl, rfl, trivial⟩), (sub_cuts (is := [0, 0]) rfl)⟩
    · obtain ⟨hat, hj, hd⟩ := at_drop hd
      rw [← hi] at hat
      rw [l15_1.eq_2] at h
      refine wmh_seq ?_
      refine wmh_region ?_
      refine wh_q rfl rfl (q_bin rfl rfl rfl) ?_
      refine wh_nil ?_
      refine wmh_seq ?_
      refine wmh_cond rfl (fun hc => ?_) (fun hc => ?_)
      · refine wmh_skip ?_
        refine wmh_seq ?_
        refine wmh_block ?_
        refine wmh_seq ?_
        refine wmh_region ?_
        refine wh_q rfl rfl (q_index el92 rfl rfl hat) ?_
        refine wh_q rfl rfl (q_load_ref ty98 rfl rfl (pick_all rfl)) ?_
        refine wh_l rfl rfl (oh_alloc (n := 4) (cs := [.sc (.int .i64 0), .sc (.string { data := #[] }), .sc (.int .i64 0), .sc (.int .i64 0)]) ze98 rfl rfl (fun k216 => ?_))
        refine wh_n rfl (oh_store (i := 0) [iA v214.kind, sA v214.name, iA v214.fn, iA v214.n] ty98 rfl rfl rfl rfl rfl rfl rfl ?_)
        refine wh_nil ?_
        refine wmh_drawn _ [4, 7, 13] [0, 1, 2, 3, 5, 6, 8, 9, 10, 11, 12, 4, 7, 13, 14] mixed (by kernel_rfl) (sub_cuts (is := [0]) rfl) ?_
        refine vh_q rfl rfl rfl rfl (q_move rfl) ?_
        refine vh_q rfl rfl rfl rfl (q_fieldAddr_own fl98_0 rfl) ?_
        refine vh_q rfl rfl rfl rfl (q_load_own ty3 rfl (i := 0) rfl rfl) ?_
        refine vh_q rfl rfl rfl rfl (q_slice_oneL (iA v214.kind) el161 zel161 rfl (Le.refl _) rfl rfl) ?_
        refine vh_q rfl rfl rfl rfl (q_fieldAddr_own fl98_1 rfl) ?_
        refine vh_q rfl rfl rfl rfl (q_load_own ty9 rfl (i := 0) rfl rfl) ?_
        refine vh_q rfl rfl rfl rfl (q_fieldAddr_own fl98_2 rfl) ?_
        refine vh_q rfl rfl rfl rfl (q_load_own ty3 rfl (i := 0) rfl rfl) ?_
        refine vh_q rfl rfl rfl rfl (q_fieldAddr_own fl98_3 rfl) ?_
        refine vh_q rfl rfl rfl rfl (q_load_own ty3 rfl (i := 0) rfl rfl) ?_
        refine vh_q rfl rfl rfl rfl (q_slice_immL [iA v214.fn, iA v214.n] [iA v214.fn, iA v214.n] el161 zel161 rfl (by exact rfl) rfl rfl rfl rfl (LeAll.cons (Le.refl _) (LeAll.cons (Le.refl _) LeAll.nil))) ?_
        obtain ⟨v223, hb214, h⟩ := obind h
        refine vh_l rfl rfl rfl rfl (oh_callX (α := Acc) [1] fn45 rfl rfl (fun τ hτ => c45 hb214 τ) (fun a224 => ⟨.inr (sub_cuts (is := [1]) rfl), ?_⟩))
        obtain ⟨v225, hb215, h⟩ := obind h
        refine vh_l rfl rfl rfl rfl (oh_callX (α := Acc) [0] fn46 rfl rfl (fun τ hτ => c46 hb215 τ) (fun a226 => ⟨.inr (sub_cuts (is := [1]) rfl), ?_⟩))
        obtain ⟨v227, hb216, h⟩ := obind h
        refine vh_l rfl rfl rfl rfl (oh_callX (α := Acc) [0] fn45 rfl rfl (fun τ hτ => c45 hb216 τ) (fun a228 => ⟨.inr (sub_cuts (is := [1]) rfl), ?_⟩))
        refine vh_q rfl rfl rfl rfl (q_assign rfl) ?_
        refine vh_nil ?_
        refine wmh_region ?_
        refine wh_q rfl rfl (q_add1 rfl rfl (by omega)) ?_
        refine wh_q rfl rfl (q_move rfl) ?_
        refine wh_nil ?_
        exact ⟨_, _, v227, rfl, h, j + 1, v10 + 1, a228, (by omega), hd, (sub_of ⟨rfl, rfl, rfl, rfl, rfl, rfl, trivial⟩), (sub_cuts (is := [0, 1]) rfl)⟩
      · exfalso; have := of_decide_eq_false hc; omega
def p44 : (List UInt8) → (List UInt8) → Option Bool
| v1, v2 =>
some (decide ((strOf v1) = (strOf v2)))
theorem c44 [ErrC] {v1 : List UInt8} {v2 : List UInt8} {r : Bool} (h : p44 v1 v2 = some r) (τ : Store) : CMH Tryd.prog 44 [slA 1 u8A v1, slA 1 u8A v2] [.frm τ] (Ret1 (.sc (.bool r)) [] τ) := by
  rw [p44.eq_1] at h
  refine ch_enter Tryd.func44 rfl Tryd.ntmps44 rfl ?_
  refine wmh_seq ?_
  refine wmh_region ?_
  refine wh_q rfl rfl (q_assign rfl) ?_
  refine wh_nil ?_
  refine wmh_seq ?_
  refine wmh_region ?_
  refine wh_q rfl rfl (q_move rfl) ?_
  refine wh_q rfl rfl (q_conv_bytes Tryd.underlying22 Tryd.underlying5 Tryd.underlying9 rfl) ?_
  refine wh_q rfl rfl (q_move rfl) ?_
  refine wh_q rfl rfl (q_conv_bytes Tryd.underlying22 Tryd.underlying5 Tryd.underlying9 rfl) ?_
  refine wh_q rfl rfl (q_bin rfl rfl rfl) ?_
  refine wh_q rfl rfl (q_assign rfl) ?_
  refine wh_nil ?_
  refine wmh_ret ?_
  obtain rfl := (some_inj h).symm
  exact ⟨_, _, rh_one rfl rfl, sub_cuts (is := [0]) rfl, rfl, rfl⟩
end Go.Gw
