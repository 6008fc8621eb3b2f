/- Errors told by plain data; what is used by the printed walks. -/
import Derived.Test.YtkloiehincgblaaDoorGwQ
import Derived.Laws.StructEq
namespace Go.Gw
/-- An error: none; one of the program's own; one with a place. -/
inductive GErr where
  | nil
  | s (i : Nat)
  | at_ (pos : Int) (e : GErr)
  deriving DecidableEq, Repr
def GErr.isNil : GErr → Bool
  | .nil => true
  | _ => false
/-- The kinds that errors are of, where the program's own ones lie. -/
class ErrC where
  te : TypeId
  ta : TypeId
  ad : Nat → Addr
def errA [c : ErrC] : GErr → AV
  | .nil => .sc .nilIface
  | .s i => .sc (.iface c.te (.pointer (some (c.ad i))))
  | .at_ p e => .ifc c.ta (.ref (.agg [iA p, errA e]) 0)
theorem nilB_err [ErrC] (e : GErr) : nilB (errA e) = some e.isNil := by cases e <;> rfl

theorem Enc.of {α : Type} {e : Nat} {f : α → AV} (h1 : ∀ x, (f x).cells.length = e) (h2 : ∀ x, (f x).cells.all AV.one = true) : Enc e f := ⟨h1, fun x => List.all_eq_true.1 (h2 x)⟩
theorem iA_enc : Enc 1 iA := .of (fun _ => rfl) (fun _ => rfl)
theorem sA_enc : Enc 1 sA := .of (fun _ => rfl) (fun _ => rfl)
theorem boA_enc : Enc 1 (fun b : Bool => AV.sc (.bool b)) := .of (fun _ => rfl) (fun _ => rfl)
theorem slA_enc {α : Type} (e : Nat) (f : α → AV) : Enc 1 (slA e f) := .of (fun _ => rfl) (fun _ => rfl)
theorem errA_enc [ErrC] : Enc 1 errA := .of (fun e => by cases e <;> rfl) (fun e => by cases e <;> rfl)

variable {P : Program} {N : Nat} {L : Slots} {H R : List HE} {K : AV → List HE → Prop} {E : List PanicEntry → List HE → Prop}
variable {d : Option Tmp} {ty : TypeId} {ps : String} {af : Array Edge} {g : Option (Nat × Bool)}
theorem le_eq {x y : AV} (h : y = x) : Le x y := h ▸ Le.refl _
theorem Le.trans {x y z : AV} (h : Le x y) (k : Le y z) : Le x z := fun A w v hr => k A w v (h A w v hr)
inductive LeAll : List AV → List AV → Prop where
  | nil : LeAll [] []
  | cons {x y : AV} {xs ys : List AV} (h : Le x y) (k : LeAll xs ys) : LeAll (x :: xs) (y :: ys)
theorem RE.le {A : Nat → Prop} {w : World} {e b : Nat} {xs ys : List AV} (h : LeAll xs ys) : ∀ {o : Nat}, RE A w e xs b o → RE A w e ys b o := by
  induction h with
  | nil => intro o hr; exact hr
  | cons h k ih =>
    intro o hr
    simp only [RE] at hr ⊢
    obtain ⟨⟨v, h1, h2, h3⟩, h4⟩ := hr
    exact ⟨⟨v, h A w v h1, h2, h3⟩, ih h4⟩
theorem LeAll.length {xs ys : List AV} (h : LeAll xs ys) : xs.length = ys.length := by induction h <;> simp_all
theorem le_slv {e : Nat} {xs ys : List AV} (h : LeAll xs ys) : Le (.slv e xs) (.slv e ys) := fun A w v hr => by
  have hl := h.length
  simp only [Gw.R] at hr ⊢
  obtain ⟨a, c, rfl, h1, h2, h3⟩ := hr
  refine ⟨a, c, by rw [hl], by omega, h2, ?_⟩
  rcases h3 with rfl | ⟨b, o, rfl, hb, hre⟩
  · cases h; exact .inl rfl
  · exact .inr ⟨b, o, rfl, hb, hre.le h⟩
theorem oh_slice_oneL {t el : TypeId} {e : Nat} {z : Value} {x : Operand} {y : AV} (u : AV) (he : elmOf P t = some (el, e)) (hz : zeroOf P el = some z) (hx : get L x = some y) (hl : Le y u) (hw : Nat.beq y.cells.length e = true) (hle : Nat.ble e 16777216 = true)
    (hk : K (.slv e [u]) H) : OMH P N ⟨d, .buildSlice t 1 #[(0, x)], ty, ps, af, g⟩ L H K E := OMH.le (oh_slice_one he hz hx hw hle ⟨rfl, rfl⟩) (le_slv (.cons hl .nil)) hk
theorem oh_slice_immL {t el : TypeId} {e len : Nat} {z : Value} {parts : Array (Nat × Operand)} {ps' : List (Nat × AV)} (xs ys : List AV) (he : elmOf P t = some (el, e)) (hz : zeroOf P el = some z) (hg : getParts L parts.toList = some ps')
    (hf : fillA (fun i => some (i * e, e)) (zerosOf z (len * e)) ps' = some (flat xs)) (hle : Nat.ble (len * e) 16777216 = true) (hle2 : Nat.ble len 16777216 = true) (hw : widths e xs = true) (hl : xs.length = len) (hll : LeAll xs ys) (hk : K (.slv e ys) H) :
    OMH P N ⟨d, .buildSlice t len parts, ty, ps, af, g⟩ L H K E := OMH.le (oh_slice_imm xs he hz hg hf hle hle2 hw hl ⟨rfl, rfl⟩) (le_slv hll) hk
theorem ret_eq {f : FuncId} {args : List AV} {Y : List HE} {τ : Store} {y y' : AV} (e : y = y') (h : CMH P f args H (Ret1 y Y τ)) : CMH P f args H (Ret1 y' Y τ) := e ▸ h
def RetRel (P : Program) (fn : Func) (N : Nat) (Q : AEnd → List HE → Prop) (L : Slots) (H : List HE) : Prop := ∃ x H1, ResH P fn N L H x ∧ SubH H1 H ∧ Q (.ret x) H1
theorem cut1_at (i : Nat) {H : List HE} {x : HE} {R : List HE} (h : cut1 i H = some (x, R)) : cut1 i H = some (x, R) := h
def strCmp : BinOp → ByteArray → ByteArray → Bool
  | .leq, x, y => Op.bytesLess x.toList y.toList || x.toList == y.toList
  | .gtr, x, y => !(Op.bytesLess x.toList y.toList || x.toList == y.toList)
  | _, x, y => !Op.bytesLess x.toList y.toList
theorem q_cmp_str {op : BinOp} {t t' : TypeId} {x y : Operand} {u v : ByteArray} (hop : op = .leq ∨ op = .gtr ∨ op = .geq) (hx : get L x = some (.sc (.string u))) (hy : get L y = some (.sc (.string v))) : QO P N ⟨d, .binOp op t x y t', ty, ps, af, g⟩ L H (.sc (.bool (strCmp op u v))) := fun _ _ _ _ hk =>
  om_val _ (fun _ w a _ ho => by
    have h1 := R_sc (ho x (by simp [Op.operands]) _ hx)
    have h2 := R_sc (ho y (by simp [Op.operands]) _ hy)
    refine ⟨_, ?_, R_sc_mk _⟩
    simp only [execOp, h1, h2]
    rcases hop with rfl | rfl | rfl <;> simp only [Sem.run_bind, eqGuard_str, Result.andThen_ok, binOp, Op.stringOp, Sem.run_pure, strCmp]) hk
end Go.Gw
namespace Go.Gw
variable {P : Program} {N : Nat} {L : Slots} {H R : List HE}
variable {d : Option Tmp} {ty : TypeId} {ps : String} {af : Array Edge} {g : Option (Nat × Bool)}
/-! ### Structs of numbers and strings held against each other -/
def fldK (P : Program) : List Field → Option (List (Nat × Nat))
  | [] => some []
  | f :: fs => match f.name == "_", P.underlying f.type, fldK P fs with
    | false, some (.int _), some r => some ((f.offset, 0) :: r)
    | false, some .string, some r => some ((f.offset, 1) :: r)
    | false, some .bool, some r => some ((f.offset, 2) :: r)
    | _, _, _ => none
def eqkOf (P : Program) (t : TypeId) : Option (List (Nat × Nat)) := match P.underlying t with
  | some (.struct fs) => cond (P.stoodInHeld t || P.eqGuardType P.depth t) none (fldK P fs.toList)
  | _ => none
def eqV : List (Nat × Nat) → List AV → List AV → Option Bool
  | [], _, _ => some true
  | (o, 0) :: ks, xs, ys => match xs[o]?, ys[o]?, eqV ks xs ys with
    | some (.sc (.int k a)), some (.sc (.int k' b)), some r => cond (decide (k = k')) (some (decide (a = b) && r)) none
    | _, _, _ => none
  | (o, 1) :: ks, xs, ys => match xs[o]?, ys[o]?, eqV ks xs ys with
    | some (.sc (.string a)), some (.sc (.string b)), some r => some (decide (a = b) && r)
    | _, _, _ => none
  | (o, 2) :: ks, xs, ys => match xs[o]?, ys[o]?, eqV ks xs ys with
    | some (.sc (.bool a)), some (.sc (.bool b)), some r => some ((a == b) && r)
    | _, _, _ => none
  | (_, _ + 3) :: _, _, _ => none

theorem part_sc {t : TypeId} {q : TypeDesc} (hu : P.underlying t = some q) (hq : (match q with | .struct _ | .array _ _ => true | _ => false) = false) {cs : List Value} {o : Nat} {v : Value} (h : cs[o]? = some v) (w : World) : (part t cs.toArray o).run P w = .ok v w := by
  have h1 : (isAgg t).run P w = .ok false w := by
    simp only [isAgg, underlying, Sem.run_bind, run_program, Result.andThen_ok, hu, Sem.run_pure]
    cases q <;> first | rfl | cases hq
  simp [part, h1, h]

theorem eqFields_run {A : Nat → Prop} {w : World} {xs ys : List AV} {us vs : List Value} (hx : RL A w xs us) (hy : RL A w ys vs) (n : Nat) : ∀ (fs : List Field) (ks : List (Nat × Nat)) (r : Bool), fldK P fs = some ks → eqV ks xs ys = some r →
    (Op.eqFields (n + 1) us.toArray vs.toArray fs).run P w = .ok r w
  | [], ks, r, h1, h2 => by
    simp only [fldK, Option.some.injEq] at h1
    subst h1
    simp only [eqV, Option.some.injEq] at h2
    subst h2
    rfl
  | f :: fs, ks, r, h1, h2 => by
    unfold fldK at h1
    split at h1
    · rename_i k ks' hn hu hk
      cases h1
      simp only [eqV] at h2
      split at h2
      · rename_i k1 a k2 b r' e2 e3 e4
        obtain ⟨u, hu1, hu2⟩ := hx.get _ _ e2
        obtain ⟨v, hv1, hv2⟩ := hy.get _ _ e3
        have := R_sc hu2; subst this
        have := R_sc hv2; subst this
        cases hkk : decide (k1 = k2) with
        | false => simp [hkk] at h2
        | true =>
          simp only [hkk, cond_true, Option.some.injEq] at h2
          have hk12 := of_decide_eq_true hkk
          subst hk12
          subst h2
          have ih := eqFields_run hx hy n fs ks' r' hk e4
          have hn' : f.name ≠ "_" := by simpa using hn
          simp only [Op.eqFields, if_pos hn', Sem.run_bind, part_sc hu rfl hu1, part_sc hu rfl hv1, Result.andThen_ok, run_equalIn_int w n f.type k1 k a b hu]
          by_cases hab : a = b <;> simp [hab, ih]
      · cases h2
    · rename_i ks' hn hu hk
      cases h1
      simp only [eqV] at h2
      split at h2
      · rename_i a b r' e2 e3 e4
        obtain ⟨u, hu1, hu2⟩ := hx.get _ _ e2
        obtain ⟨v, hv1, hv2⟩ := hy.get _ _ e3
        have := R_sc hu2; subst this
        have := R_sc hv2; subst this
        cases h2
        have ih := eqFields_run hx hy n fs ks' r' hk e4
        have hn' : f.name ≠ "_" := by simpa using hn
        have hb := bytes_beq a b
        simp only [Op.eqFields, if_pos hn', Sem.run_bind, part_sc hu rfl hu1, part_sc hu rfl hv1, Result.andThen_ok, run_equalIn_string w n f.type a b hu, hb]
        by_cases hab : a = b <;> simp [hab, ih]
      · cases h2
    · rename_i ks' hn hu hk
      cases h1
      simp only [eqV] at h2
      split at h2
      · rename_i a b r' e2 e3 e4
        obtain ⟨u, hu1, hu2⟩ := hx.get _ _ e2
        obtain ⟨v, hv1, hv2⟩ := hy.get _ _ e3
        have := R_sc hu2; subst this
        have := R_sc hv2; subst this
        cases h2
        have ih := eqFields_run hx hy n fs ks' r' hk e4
        have hn' : f.name ≠ "_" := by simpa using hn
        simp only [Op.eqFields, if_pos hn', Sem.run_bind, part_sc hu rfl hu1, part_sc hu rfl hv1, Result.andThen_ok, run_equalIn_bool' w n f.type a b hu]
        by_cases hab : a = b <;> simp [hab, ih]
      · cases h2
    · cases h1

theorem om_eqs {t t' : TypeId} {op : BinOp} {x y : Operand} {xs ys : List AV} {ks : List (Nat × Nat)} {r : Bool} {σ : Store} {K : AV → Store → Prop} {E : List PanicEntry → Store → Prop} (hk : eqkOf P t = some ks) (hop : op = .eql ∨ op = .neq) (hx : get L x = some (.agg xs)) (hy : get L y = some (.agg ys)) (hr : eqV ks xs ys = some r)
    (hK : K (.sc (.bool (match op with | .eql => r | _ => !r))) σ) : OM P N ⟨d, .binOp op t x y t', ty, ps, af, g⟩ L σ K E :=
  om_val _ (fun A w a _ ho => by
    have h1 := ho x (by simp [Op.operands]) _ hx
    have h2 := ho y (by simp [Op.operands]) _ hy
    simp only [Gw.R] at h1 h2
    obtain ⟨us, h1, h3⟩ := h1
    obtain ⟨vs, h2, h4⟩ := h2
    refine ⟨_, ?_, R_sc_mk _⟩
    unfold eqkOf at hk
    split at hk
    · rename_i fs hu
      cases hb : (P.stoodInHeld t || P.eqGuardType P.depth t) with
      | true => simp [hb] at hk
      | false =>
        simp only [hb, cond_false] at hk
        obtain ⟨b1, b2⟩ := Bool.or_eq_false_iff.1 hb
        have hf : P.fieldsOf t = fs := by simp [Program.fieldsOf, hu]
        have he := eqFields_run h3 h4 9998 fs.toList ks r hk hr
        have hq : (Op.equalIn 10000 t (.agg us.toArray) (.agg vs.toArray)).run P w = .ok r w := by
          rw [show (10000 : Nat) = 9999 + 1 from rfl, run_equalIn_struct w 9999 t _ _ (by rw [hf]; exact hu) b1, hf]
          exact he
        rcases hop with rfl | rfl
        · simp only [execOp, h1, h2, Sem.run_bind, run_eqGuard_agg w .eql t x y _ _ b2, Result.andThen_ok, run_eql_struct w t, hq, Sem.run_pure]
        · simp only [execOp, h1, h2, Sem.run_bind, run_eqGuard_agg w .neq t x y _ _ b2, Result.andThen_ok, run_neq_struct w t, hq, Sem.run_pure]
    · cases hk) hK
theorem q_eqs {t t' : TypeId} {x y : Operand} {xs ys : List AV} {ks : List (Nat × Nat)} {r : Bool} (hk : eqkOf P t = some ks) (hx : get L x = some (.agg xs)) (hy : get L y = some (.agg ys)) (hr : eqV ks xs ys = some r) : QO P N ⟨d, .binOp .eql t x y t', ty, ps, af, g⟩ L H (.sc (.bool r)) :=
  fun _ _ _ _ hK => om_eqs hk (.inl rfl) hx hy hr hK
theorem q_nes {t t' : TypeId} {x y : Operand} {xs ys : List AV} {ks : List (Nat × Nat)} {r : Bool} (hk : eqkOf P t = some ks) (hx : get L x = some (.agg xs)) (hy : get L y = some (.agg ys)) (hr : eqV ks xs ys = some r) : QO P N ⟨d, .binOp .neq t x y t', ty, ps, af, g⟩ L H (.sc (.bool (!r))) :=
  fun _ _ _ _ hK => om_eqs hk (.inr rfl) hx hy hr hK
end Go.Gw
namespace Go.Gw
variable {P : Program} {N : Nat} {L : Slots} {H R : List HE} {K : AV → List HE → Prop} {E : List PanicEntry → List HE → Prop}
variable {d : Option Tmp} {ty : TypeId} {ps : String} {af : Array Edge} {g : Option (Nat × Bool)}
theorem equalIn_slnil (n : Nat) {t el : TypeId} (hu : P.underlying t = some (.slice el)) (p : Option Addr) (l c l' c' : Nat) (w : World) : (Op.equalIn (n + 1) t (.slice p l c) (.slice none l' c')).run P w = .ok p.isNone w := by
  cases p <;> simp [Op.equalIn, underlying, hu]
theorem oh_isnil {α : Type} {t t' el : TypeId} {x : Operand} {e : Nat} {f : α → AV} {xs : List α} (hu : P.underlying t = some (.slice el)) (hx : get L x = some (slA e f xs)) (hk : ∀ b : Bool, (b = true → xs = []) → K (.sc (.bool b)) H) :
    OMH P N ⟨d, .binOp .eql t x (.const (.slice none 0 0)) t', ty, ps, af, g⟩ L H K E := fun σ hs => om_gen fun A w a hg _ ho => by
  have h1 := ho x (by simp [Op.operands]) _ hx
  simp only [slA, Gw.R] at h1
  obtain ⟨p, c, h1, _, _, h4⟩ := h1
  refine ⟨A, w, .bool p.isNone, _, σ, ?_, Ext.refl A w, hg, R_sc_mk _, H, hs, hk p.isNone fun hp => ?_⟩
  · simp only [execOp, h1]
    rw [show a.eval (.const (.slice none 0 0)) = .slice none 0 0 from rfl]
    have e1 : binOp .eql t (.slice p (xs.map f).length c) (.slice none 0 0) = (do pure (.bool (← Op.equal t (.slice p (xs.map f).length c) (.slice none 0 0)))) := by unfold binOp; rfl
    have e2 : (eqGuard .eql t x (.const (.slice none 0 0)) (.slice p (xs.map f).length c) (.slice none 0 0)).run P w = .ok () w := rfl
    have e3 : (Op.equal t (.slice p (xs.map f).length c) (.slice none 0 0)).run P w = .ok p.isNone w := by
      unfold Op.equal Op.maxDepth
      exact equalIn_slnil 9999 hu p _ c 0 0 w
    simp only [Sem.run_bind, e2, Result.andThen_ok, e1, e3, Sem.run_pure]
  · rcases h4 with h4 | ⟨b, o, rfl, _⟩
    · simpa using h4
    · cases hp
theorem oh_slice_acc0 {t el : TypeId} {e : Nat} {z : Value} (he : elmOf P t = some (el, e)) (hz : zeroOf P el = some z) (hk : ∀ a, K (accU a 0) (.acc a el e [] :: H)) : OMH P N ⟨d, .buildSlice t 0 #[], ty, ps, af, g⟩ L H K E := fun σ hs =>
  om_buildSlice_own he hz (ps' := []) (cs := []) rfl (by simp [fillA, zerosOf]) (by simp) fun k hk' => by
    have h := has_acc_mk (a := some (k, 0)) (el := el) (e := e) (f := u8A) (xs := []) hs ⟨hk', Nat.le_refl _, Nat.zero_le _⟩
    have hh : σ.set k (.cells el ([] : List AV).length []) = accS σ (some (k, 0)) el e u8A [] := by
      simp [accS, flat]
    rw [hh]
    exact ⟨_, h, hk (some (k, 0))⟩
theorem om_callc {f : FuncId} {fo : Operand} {xs : Array Operand} {ts : Array TypeId} {args : List AV} {σ : Store} {K : AV → Store → Prop} {E : List PanicEntry → Store → Prop} (hf : IsFn P f) (hfo : get L fo = some (.sc (.func (.func f) #[] #[]))) (hx : getL L xs.toList = some args) (h : CM P f args σ (endK K E)) :
    OM P N ⟨d, .call ⟨.value fo, xs, ts⟩, ty, ps, af, g⟩ L σ K E :=
  om_enter h fun A w a _ ho => by
    have h1 := R_sc (ho fo (by simp [Op.operands, Call.operands]) _ hfo)
    refine ⟨xs.toList.map a.eval, ?_, getL_rel (fun x hx => ho x (by simp [Op.operands, Call.operands, Array.mem_toList_iff.1 hx])) hx⟩
    simp only [execOp, resolve, h1, Deferred.ofValue, Sem.run_bind, Sem.run_pure, Result.andThen_ok, invoke, run_callFunc hf]
    congr 2
    apply Array.ext'
    simp
theorem oh_callc1 {f : FuncId} {fo : Operand} {xs : Array Operand} {ts : Array TypeId} {args : List AV} (is : List Nat) {X Y : List HE} {y : AV} (hf : IsFn P f) (hfo : get L fo = some (.sc (.func (.func f) #[] #[]))) (hx : getL L xs.toList = some args) (hc : cuts is H = some (X, R))
    (h : ∀ τ, Has R τ → CMH P f args (X ++ [.frm τ]) (Ret1 y Y τ)) (hk : K y (Y ++ R)) : OMH P N ⟨d, .call ⟨.value fo, xs, ts⟩, ty, ps, af, g⟩ L H K E := fun σ hs =>
  om_callc hf hfo hx (((cmh_frame (Q := endH K E) (fun τ hr => (h τ hr).mono (by rintro e H' ⟨rfl, rfl⟩; exact ⟨Y, rfl, hk⟩))) σ ((has_cuts hc).1 hs)).mono fun e σ' ⟨H', h1, h2⟩ => by
    cases e with
    | ret x => exact ⟨H', h1, h2⟩
    | pan ch => exact ⟨H', h1, h2⟩)
end Go.Gw
namespace Go.Gw
variable {P : Program} {N : Nat} {L : Slots} {H R : List HE} {K : AV → List HE → Prop} {E : List PanicEntry → List HE → Prop}
variable {d : Option Tmp} {ty : TypeId} {ps : String} {af : Array Edge} {g : Option (Nat × Bool)}
/-- A pointer that may be nil. -/
def optA {α : Type} (f : α → AV) : Option α → AV
  | none => .sc (.pointer none)
  | some x => .ref (f x) 0
theorem nilP_opt {α : Type} {f : α → AV} (x : Option α) : nilP (optA f x) = some x.isNone := by cases x <;> rfl
theorem q_nilCheck_opt {α : Type} {x : Operand} {f : α → AV} {v : Option α} {c : α} (hx : get L x = some (optA f v)) (hb : v = some c) : QO P N ⟨d, .nilCheck x, ty, ps, af, g⟩ L H (.ref (f c) 0) := by
  subst hb; exact q_nilCheck_ref hx
theorem wmh_frz_ref {c : Code} {Q : Exit → Slots → List HE → Prop} {i k t n off : Nat} {cs : List AV} (x : AV) (ss : List Nat) (hi : cut1 i H = some (.blk k (.cells t n cs), R)) (hx : x.cells = cs) (hs : allAt (.sc (.pointer (some ⟨k, off, none⟩))) L ss)
    (h : WMH P N c Q (casts (.ref x off) L ss) R) : WMH P N c Q L H := fun σ hσ => by
  have hb := (has_cut1 hi).1 hσ
  have ho := has_blk hb
  subst hx
  intro A w a hg hf
  obtain ⟨hg', he⟩ := good_freeze hg ho
  exact wp_mono (h _ (has_gone hb) (plus A k) w a hg' (hf.casts he (fun v hv => by rw [R_sc hv]; exact freeze_ref hg ho off) ss hs)) fun _ _ _ q => q.ext he
def u8? (z : Int) : Option UInt8 := if 0 ≤ z ∧ z ≤ 255 then some (UInt8.ofNat z.toNat) else none
theorem u8?_eq {z : Int} {w : UInt8} (h : u8? z = some w) : u8A w = .sc (.int .u8 z) := by
  unfold u8? at h
  split at h
  · rename_i hz; cases h; exact u8A_of hz
  · cases h
end Go.Gw
namespace Go.Gw
variable {P : Program} {N : Nat} {L : Slots} {H R : List HE} {K : AV → List HE → Prop} {E : List PanicEntry → List HE → Prop}
variable {d : Option Tmp} {ty : TypeId} {ps : String} {af : Array Edge} {g : Option (Nat × Bool)}
def mk0? (m : Nat) (z : Int) : Option Unit := if 0 ≤ z ∧ z * m ≤ 140737488355328 then some () else none
theorem oh_make0 {t el : TypeId} {e bytes : Nat} {x y : Operand} {k k' : IntKind} {c : Int} (ha : Ap P t el e bytes) (hx : get L x = some (.sc (.int k 0))) (hy : get L y = some (.sc (.int k' c))) (h : mk0? (bytes + 1) c = some ())
    (hk : ∀ a, K (accU a 0) (.acc a el e [] :: H)) : OMH P N ⟨d, .makeSlice t x y, ty, ps, af, g⟩ L H K E := fun σ hs => by
  unfold mk0? at h
  split at h
  · rename_i hc
    obtain ⟨h0, h1⟩ := hc
    obtain ⟨n, rfl⟩ := Int.eq_ofNat_of_zero_le h0
    obtain ⟨i, z, h2, h3, h4, rfl⟩ := ha.inf
    have h1' : n * (i.bytes + 1) ≤ 140737488355328 := by
      rw [← Int.natCast_mul] at h1
      exact Int.ofNat_le.1 h1
    rw [Nat.mul_add, Nat.mul_one] at h1'
    refine om_makeSlice (n := 0) (c := n) ha.elm h2 (z := z) (by simp [zeroOf, h2, h3]) hx hy (Nat.zero_le _) (by omega) (by omega) fun q hq => ?_
    have hh := has_acc_mk (a := some (q, n)) (el := el) (e := e) (f := u8A) (xs := []) hs ⟨hq, Nat.zero_le _, by unfold maxC; omega⟩
    have he : σ.set q (.cells el (n * e) (zerosOf z (0 * e))) = accS σ (some (q, n)) el e u8A [] := by
      simp [accS, flat, zerosOf]
    rw [he]
    exact ⟨_, hh, hk (some (q, n))⟩
  · cases h
end Go.Gw
namespace Go.Gw
variable {P : Program} {N : Nat} {L : Slots} {H R : List HE}
variable {d : Option Tmp} {ty : TypeId} {ps : String} {af : Array Edge} {g : Option (Nat × Bool)}
theorem q_slice_oneL {t el : TypeId} {e : Nat} {z : Value} {x : Operand} {y : AV} (u : AV) (he : elmOf P t = some (el, e)) (hz : zeroOf P el = some z) (hx : get L x = some y) (hl : Le y u) (hw : Nat.beq y.cells.length e = true) (hle : Nat.ble e 16777216 = true) :
    QO P N ⟨d, .buildSlice t 1 #[(0, x)], ty, ps, af, g⟩ L H (.slv e [u]) := QO.le (fun _ _ _ _ hk => om_slice_one he hz hx hw hle hk) (le_slv (.cons hl .nil))
theorem q_slice_immL {t el : TypeId} {e len : Nat} {z : Value} {parts : Array (Nat × Operand)} {ps' : List (Nat × AV)} (xs ys : List AV) (he : elmOf P t = some (el, e)) (hz : zeroOf P el = some z) (hg : getParts L parts.toList = some ps')
    (hf : fillA (fun i => some (i * e, e)) (zerosOf z (len * e)) ps' = some (flat xs)) (hle : Nat.ble (len * e) 16777216 = true) (hle2 : Nat.ble len 16777216 = true) (hw : widths e xs = true) (hl : xs.length = len) (hll : LeAll xs ys) :
    QO P N ⟨d, .buildSlice t len parts, ty, ps, af, g⟩ L H (.slv e ys) := QO.le (fun _ _ _ _ hk => om_buildSlice_imm xs he hz hg hf hle hle2 hw hl hk) (le_slv hll)
end Go.Gw
namespace Go.Gw
variable {P : Program} {N : Nat} {L : Slots} {H : List HE} {ops : Array Oper} {l : List Oper} {Q : Exit → Slots → List HE → Prop} {loud : List Nat} {c : List Nat} {HJ : List HE}
theorem wh_opt {α : Type} {t : Nat} {f : α → AV} {v : Option α} {x : α} (hl : look L t = some (optA f v)) (hu : v = some x) (k : WLH P N ops l Q ((t, .ref (f x) 0) :: L) H) : WLH P N ops l Q L H := by
  subst hu
  refine wh_same (fun s => ?_) k
  rw [look_cons]
  split
  · rename_i e; subst e; exact hl.symm
  · rfl
theorem vh_opt {α : Type} {t : Nat} {f : α → AV} {v : Option α} {x : α} (hl : look L t = some (optA f v)) (hu : v = some x) (k : VCH P N ops HJ loud Q c ((t, .ref (f x) 0) :: L) H) : VCH P N ops HJ loud Q c L H := by
  subst hu
  refine fun σ hs => vc_look c (fun s => ?_) (k σ hs)
  rw [look_cons]
  split
  · rename_i e; subst e; exact hl.symm
  · rfl
end Go.Gw
