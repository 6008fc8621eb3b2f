/- Steps in the form in which the walks' texts take them. -/
import Derived.Test.YtkloiehincgblaaDoorGwCall
namespace Go.Gw
variable {P : Program} {N : Nat} {L : Slots} {σ : Store} {ops : Array Oper} {l : List Oper} {Q : Exit → Slots → Store → Prop}
variable {d : Tmp} {op : Op} {ty : TypeId} {ps : String} {af : Array Edge} {g : Option (Nat × Bool)} {j : Nat} {want : Bool}

theorem wl_s (hd : Nat.blt d N = true) (h : OM P N ⟨some d, op, ty, ps, af, none⟩ L σ (fun y σ' => WL P N ops l Q ((d, y) :: L) σ') (fun ch σ' => Q (.panic ch) L σ')) : WL P N ops (⟨some d, op, ty, ps, af, none⟩ :: l) Q L σ := wl_run hd rfl h
theorem wl_n (h : OM P N ⟨none, op, ty, ps, af, none⟩ L σ (fun _ σ' => WL P N ops l Q L σ') (fun ch σ' => Q (.panic ch) L σ')) : WL P N ops (⟨none, op, ty, ps, af, none⟩ :: l) Q L σ := wl_run rfl rfl h
theorem wl_sg (hd : Nat.blt d N = true) (hg : gd ops L ⟨some d, op, ty, ps, af, some (j, want)⟩ = some true) (h : OM P N ⟨some d, op, ty, ps, af, some (j, want)⟩ L σ (fun y σ' => WL P N ops l Q ((d, y) :: L) σ') (fun ch σ' => Q (.panic ch) L σ')) :
    WL P N ops (⟨some d, op, ty, ps, af, some (j, want)⟩ :: l) Q L σ := wl_run hd hg h
theorem wl_ng (hg : gd ops L ⟨none, op, ty, ps, af, some (j, want)⟩ = some true) (h : OM P N ⟨none, op, ty, ps, af, some (j, want)⟩ L σ (fun _ σ' => WL P N ops l Q L σ') (fun ch σ' => Q (.panic ch) L σ')) :
    WL P N ops (⟨none, op, ty, ps, af, some (j, want)⟩ :: l) Q L σ := wl_run rfl hg h
theorem wl_sk (hd : Nat.blt d N = true) (hg : gd ops L ⟨some d, op, ty, ps, af, some (j, want)⟩ = some false) (h : WL P N ops l Q ((d, .sc undef) :: L) σ) : WL P N ops (⟨some d, op, ty, ps, af, some (j, want)⟩ :: l) Q L σ := wl_skip hd hg h
theorem wl_nk (hg : gd ops L ⟨none, op, ty, ps, af, some (j, want)⟩ = some false) (h : WL P N ops l Q L σ) : WL P N ops (⟨none, op, ty, ps, af, some (j, want)⟩ :: l) Q L σ := wl_skip rfl hg h

variable {J : Store → Prop} {loud : List Nat} {i : Nat} {c : List Nat}

theorem vc_nil (h : Q .normal L σ) : VC P N ops J loud Q [] L σ := ⟨L, Sub.refl L, h⟩

theorem vc_q {o : Oper} (y : AV) (ho : ops[i]? = some o) (hd : dstOk N o = true) (hl : loud.contains i = false) (hg : gd ops L o = some true) (h : ∀ σ, J σ → OM P N o L σ (fun z σ' => z = y ∧ σ' = σ) (fun _ _ => False))
    (hk : VC P N ops J loud Q c (upd o.dst y L) σ) : VC P N ops J loud Q (i :: c) L σ := by
  refine ⟨o, ho, hd, ?_⟩
  rw [if_neg (by rw [hl]; exact Bool.false_ne_true)]
  exact ⟨y, fun σ hJ => OMg.run hg (h σ hJ), hk⟩
theorem vc_l {o : Oper} (ho : ops[i]? = some o) (hd : dstOk N o = true) (hl : loud.contains i = true) (hg : gd ops L o = some true)
    (h : OM P N o L σ (fun y σ' => (freeOk ops loud i = true ∨ J σ') ∧ VC P N ops J loud Q c (upd o.dst y L) σ') (fun ch σ' => Q (.panic ch) [] σ')) : VC P N ops J loud Q (i :: c) L σ := by
  refine ⟨o, ho, hd, ?_⟩
  rw [if_pos hl]
  exact OMg.run hg h
theorem vc_skip {o : Oper} (hJ : J σ) (ho : ops[i]? = some o) (hd : dstOk N o = true) (hg : gd ops L o = some false) (hk : VC P N ops J loud Q c (upd o.dst (.sc undef) L) σ) : VC P N ops J loud Q (i :: c) L σ := by
  refine ⟨o, ho, hd, ?_⟩
  split
  · exact OMg.skip hg ⟨.inr hJ, hk⟩
  · exact ⟨_, fun σ _ => OMg.skip hg ⟨rfl, rfl⟩, hk⟩

/-- A quiet operation. -/
theorem vq_s (y : AV) (ho : ops[i]? = some ⟨some d, op, ty, ps, af, none⟩) (hd : Nat.blt d N = true) (hl : loud.contains i = false) (h : ∀ σ, J σ → OM P N ⟨some d, op, ty, ps, af, none⟩ L σ (fun z σ' => z = y ∧ σ' = σ) (fun _ _ => False))
    (hk : VC P N ops J loud Q c ((d, y) :: L) σ) : VC P N ops J loud Q (i :: c) L σ := vc_q y ho hd hl rfl h hk
theorem vq_sg (y : AV) (ho : ops[i]? = some ⟨some d, op, ty, ps, af, some (j, want)⟩) (hd : Nat.blt d N = true) (hl : loud.contains i = false) (hg : gd ops L ⟨some d, op, ty, ps, af, some (j, want)⟩ = some true)
    (h : ∀ σ, J σ → OM P N ⟨some d, op, ty, ps, af, some (j, want)⟩ L σ (fun z σ' => z = y ∧ σ' = σ) (fun _ _ => False)) (hk : VC P N ops J loud Q c ((d, y) :: L) σ) : VC P N ops J loud Q (i :: c) L σ := vc_q y ho hd hl hg h hk
/-- A loud one. -/
theorem vl_s (ho : ops[i]? = some ⟨some d, op, ty, ps, af, none⟩) (hd : Nat.blt d N = true) (hl : loud.contains i = true)
    (h : OM P N ⟨some d, op, ty, ps, af, none⟩ L σ (fun y σ' => (freeOk ops loud i = true ∨ J σ') ∧ VC P N ops J loud Q c ((d, y) :: L) σ') (fun ch σ' => Q (.panic ch) [] σ')) : VC P N ops J loud Q (i :: c) L σ := vc_l ho hd hl rfl h
theorem vl_n (ho : ops[i]? = some ⟨none, op, ty, ps, af, none⟩) (hl : loud.contains i = true)
    (h : OM P N ⟨none, op, ty, ps, af, none⟩ L σ (fun _ σ' => (freeOk ops loud i = true ∨ J σ') ∧ VC P N ops J loud Q c L σ') (fun ch σ' => Q (.panic ch) [] σ')) : VC P N ops J loud Q (i :: c) L σ := vc_l ho rfl hl rfl h
theorem vl_sg (ho : ops[i]? = some ⟨some d, op, ty, ps, af, some (j, want)⟩) (hd : Nat.blt d N = true) (hl : loud.contains i = true) (hg : gd ops L ⟨some d, op, ty, ps, af, some (j, want)⟩ = some true)
    (h : OM P N ⟨some d, op, ty, ps, af, some (j, want)⟩ L σ (fun y σ' => (freeOk ops loud i = true ∨ J σ') ∧ VC P N ops J loud Q c ((d, y) :: L) σ') (fun ch σ' => Q (.panic ch) [] σ')) : VC P N ops J loud Q (i :: c) L σ := vc_l ho hd hl hg h
/-- One that is not wanted. -/
theorem vk_s (hJ : J σ) (ho : ops[i]? = some ⟨some d, op, ty, ps, af, some (j, want)⟩) (hd : Nat.blt d N = true) (hg : gd ops L ⟨some d, op, ty, ps, af, some (j, want)⟩ = some false) (hk : VC P N ops J loud Q c ((d, .sc undef) :: L) σ) :
    VC P N ops J loud Q (i :: c) L σ := vc_skip hJ ho hd hg hk
theorem vk_n (hJ : J σ) (ho : ops[i]? = some ⟨none, op, ty, ps, af, some (j, want)⟩) (hg : gd ops L ⟨none, op, ty, ps, af, some (j, want)⟩ = some false) (hk : VC P N ops J loud Q c L σ) :
    VC P N ops J loud Q (i :: c) L σ := vc_skip hJ ho rfl hg hk

/-! ### Results -/
theorem res_one {fn : Func} {t : Tmp} {x : AV} (h : fn.results = #[.tmp t]) (hx : look L t = some x) : ResM P fn N L σ x :=
  fun _ w a _ hf => ⟨_, results_tmp h a.tmps P w, hf.at_ t x hx⟩
theorem res_two {fn : Func} {t u : Tmp} {x y : AV} (h : fn.results = #[.tmp t, .tmp u]) (hx : look L t = some x) (hy : look L u = some y) : ResM P fn N L σ (.tup [x, y]) :=
  fun _ w a _ hf => ⟨_, results_tmp2 h a.tmps P w, by simp only [R]; exact ⟨[_, _], rfl, by simp only [RL]; exact ⟨_, _, rfl, hf.at_ t x hx, _, _, rfl, hf.at_ u y hy, rfl⟩⟩⟩
theorem res_three {fn : Func} {t u v : Tmp} {x y z : AV} (h : fn.results = #[.tmp t, .tmp u, .tmp v]) (hx : look L t = some x) (hy : look L u = some y) (hz : look L v = some z) : ResM P fn N L σ (.tup [x, y, z]) :=
  fun A w a _ hf => ⟨.tuple #[a.tmps.getD t undef, a.tmps.getD u undef, a.tmps.getD v undef], by simp [results, h], by simp only [R]; exact ⟨[_, _, _], rfl, by simp only [RL]; exact ⟨_, _, rfl, hf.at_ t x hx, _, _, rfl, hf.at_ u y hy, _, _, rfl, hf.at_ v z hz, rfl⟩⟩⟩
theorem res_none {fn : Func} (h : fn.results = #[]) : ResM P fn N L σ (.tup []) :=
  fun _ w a _ _ => ⟨_, results_none h a.tmps P w, by simp only [R]; exact ⟨[], rfl, by simp only [RL]⟩⟩

/-! ### A test whose outcome is not known -/
theorem wl_if {t : Nat} {b : Bool} (h : look L t = some (.sc (.bool b))) (h1 : b = true → WL P N ops l Q ((t, .sc (.bool true)) :: L) σ) (h0 : b = false → WL P N ops l Q ((t, .sc (.bool false)) :: L) σ) : WL P N ops l Q L σ := by
  have hs : Sub ((t, .sc (.bool b)) :: L) L := by
    intro s x hx
    rw [look_cons] at hx
    split at hx
    · rename_i e; subst e; cases hx; exact h
    · exact hx
  cases b with
  | true => exact wl_sub hs (h1 rfl)
  | false => exact wl_sub hs (h0 rfl)
theorem vc_if {t : Nat} {b : Bool} (h : look L t = some (.sc (.bool b))) (h1 : b = true → VC P N ops J loud Q c ((t, .sc (.bool true)) :: L) σ) (h0 : b = false → VC P N ops J loud Q c ((t, .sc (.bool false)) :: L) σ) : VC P N ops J loud Q c L σ := by
  have hs : ∀ s, look ((t, .sc (.bool b)) :: L) s = look L s := by
    intro s
    rw [look_cons]
    split
    · rename_i e; subst e; exact h.symm
    · rfl
  cases b with
  | true => exact vc_look c hs (h1 rfl)
  | false => exact vc_look c hs (h0 rfl)
theorem wm_cond_t {co : Operand} {x y : Code} (hc : get L co = some (.sc (.bool true))) (h : WM P N x Q L σ) : WM P N (.cond co x y) Q L σ := wm_cond hc (fun _ => h) (fun e => by cases e)
theorem wm_cond_f {co : Operand} {x y : Code} (hc : get L co = some (.sc (.bool false))) (h : WM P N y Q L σ) : WM P N (.cond co x y) Q L σ := wm_cond hc (fun e => by cases e) (fun _ => h)

/-- A call whose answer is known and that leaves the owned blocks alone. -/
theorem om_call_ret {f : FuncId} {xs : Array Operand} {ts : Array TypeId} {args : List AV} {y : AV} {K : AV → Store → Prop} {E : List PanicEntry → Store → Prop} {d' : Option Tmp} (hf : IsFn P f) (hx : getL L xs.toList = some args) (h : CM P f args σ (Ret y σ)) (hk : K y σ) :
    OM P N ⟨d', .call ⟨.value (.func f), xs, ts⟩, ty, ps, af, g⟩ L σ K E := om_call hf hx (h.mono (by rintro e s ⟨rfl, rfl⟩; exact hk))

/-- The slots that live on. -/
def subB : Slots → Slots → Prop
  | [], _ => True
  | p :: L', L => look L p.1 = some p.2 ∧ subB L' L
theorem sub_of : ∀ {L' L : Slots}, subB L' L → Sub L' L
  | [], _, _, t, x, hx => by cases hx
  | p :: L', L, h, t, x, hx => by
    obtain ⟨s, y⟩ := p
    rw [look_cons] at hx
    split at hx
    · rename_i e; subst e; cases hx; exact h.1
    · exact sub_of h.2 t x hx

/-- What an append asks of a slice's type. -/
structure Ap (P : Program) (t el : TypeId) (e bytes : Nat) : Prop where
  elm : elmOf P t = some (el, e)
  inf : ∃ i z, P.info? el = some i ∧ i.zero = some z ∧ z.cells.size = e ∧ i.bytes = bytes
theorem Ap.of {t el : TypeId} {e : Nat} {i : TypeInfo} {z : Value} (h : elmOf P t = some (el, e)) (hi : P.info? el = some i) (hz : i.zero = some z) (hs : z.cells.size = e) : Ap P t el e i.bytes := ⟨h, i, z, hi, hz, hs, rfl⟩

/-- `append(x, ys...)`, or of one element. -/
theorem om_app {t t2 el : TypeId} {e bytes : Nat} {x y : Operand} {u v : AV} {n c m : Nat} {cs ds : List AV} {K : AV → Store → Prop} {E : List PanicEntry → Store → Prop} {d' : Option Tmp} (ha : Ap P t el e bytes) (hq : (∃ q, P.underlying t2 = some (.slice q)) ∨ P.underlying t2 = some .string)
    (hx : get L x = some u) (hy : get L y = some v) (hd : Dst σ el e u n c cs) (hs : Src P σ e v m ds) (hone : ∀ a ∈ ds, a.one = true) (h47 : (n + m) * bytes ≤ 140737488355328) (h63 : n + m ≤ maxC)
    (hnil : m = 0 → u = .sc (.slice none 0 0) → K u σ)
    (hk : ∀ k' c', gone σ u k' = none → n + m ≤ c' → (c' ≤ maxC ∨ c' = c) → (0 < m ∨ ∃ k, u = .sc (.slice (some ⟨k, 0, none⟩) n c)) → K (.sc (.slice (some ⟨k', 0, none⟩) (n + m) c')) ((gone σ u).set k' (.cells el (c' * e) (cs ++ ds)))) :
    OM P N ⟨d', .call ⟨.builtin .append, #[x, y], #[t, t2]⟩, ty, ps, af, g⟩ L σ K E := by
  obtain ⟨i, z, h1, h2, h3, rfl⟩ := ha.inf
  exact om_append ha.elm h1 h2 h3 hq hx hy hd hs hone h47 h63 hnil hk

theorem wrap64_in {n : Int} (h : -9223372036854775808 ≤ n ∧ n < 9223372036854775808) : IntKind.i64.wrap n = n := by
  rw [IntKind.wrap_i64]; omega
theorem om_add64 {t t' : TypeId} {x y : Operand} {u v : Int} {K : AV → Store → Prop} {E : List PanicEntry → Store → Prop} {d' : Option Tmp} (hx : get L x = some (.sc (.int .i64 u))) (hy : get L y = some (.sc (.int .i64 v))) (hb : -9223372036854775808 ≤ u + v ∧ u + v < 9223372036854775808) (hk : K (.sc (.int .i64 (u + v))) σ) :
    OM P N ⟨d', .binOp .add t x y t', ty, ps, af, g⟩ L σ K E := om_bin hx hy rfl (by rw [wrap64_in hb]; exact hk)
theorem om_sub64 {t t' : TypeId} {x y : Operand} {u v : Int} {K : AV → Store → Prop} {E : List PanicEntry → Store → Prop} {d' : Option Tmp} (hx : get L x = some (.sc (.int .i64 u))) (hy : get L y = some (.sc (.int .i64 v))) (hb : -9223372036854775808 ≤ u - v ∧ u - v < 9223372036854775808) (hk : K (.sc (.int .i64 (u - v))) σ) :
    OM P N ⟨d', .binOp .sub t x y t', ty, ps, af, g⟩ L σ K E := om_bin hx hy rfl (by rw [wrap64_in hb]; exact hk)

/-! ### Held against nil -/
theorem eqGuard_const (op : BinOp) (t : TypeId) (x : Operand) (c : Value) (u : Value) (hu : (match u with | .nilIface => true | .iface _ _ => true | _ => false) = true) (w : World) : (eqGuard op t x (.const c) u .nilIface).run P w = .ok () w := by
  cases u <;> first
    | (cases hu; done)
    | (cases op <;> simp [eqGuard])

theorem equalIn_nil (n : Nat) {t : TypeId} {ms : Array (String × TypeId)} (hu : P.underlying t = some (.interface ms)) (w : World) : (Op.equalIn (n + 1) t .nilIface .nilIface).run P w = .ok true w := by simp [Op.equalIn, underlying, hu]
theorem equalIn_iface_nil (n : Nat) {t : TypeId} {ms : Array (String × TypeId)} (hu : P.underlying t = some (.interface ms)) (q : TypeId) (v : Value) (w : World) : (Op.equalIn (n + 1) t (.iface q v) .nilIface).run P w = .ok false w := by simp [Op.equalIn, underlying, hu]
theorem run_eq_nil {t : TypeId} {ms : Array (String × TypeId)} (hu : P.underlying t = some (.interface ms)) (w : World) : (Op.equal t .nilIface .nilIface).run P w = .ok true w := by
  unfold Op.equal Op.maxDepth
  exact equalIn_nil 9999 hu w
theorem run_eq_iface_nil {t : TypeId} {ms : Array (String × TypeId)} (hu : P.underlying t = some (.interface ms)) (q : TypeId) (v : Value) (w : World) : (Op.equal t (.iface q v) .nilIface).run P w = .ok false w := by
  unfold Op.equal Op.maxDepth
  exact equalIn_iface_nil 9999 hu q v w
theorem binOp_eql_nil (t : TypeId) (u : Value) (hu : u = .nilIface ∨ ∃ q v, u = .iface q v) : binOp .eql t u .nilIface = (do pure (.bool (← Op.equal t u .nilIface))) := by
  rcases hu with rfl | ⟨q, v, rfl⟩ <;> (unfold binOp; rfl)
theorem binOp_neq_nil (t : TypeId) (u : Value) (hu : u = .nilIface ∨ ∃ q v, u = .iface q v) : binOp .neq t u .nilIface = (do pure (.bool (!(← Op.equal t u .nilIface)))) := by
  rcases hu with rfl | ⟨q, v, rfl⟩ <;> (unfold binOp; rfl)

/-- Is it nil? -/
def nilB : AV → Option Bool
  | .sc .nilIface => some true
  | .sc (.iface _ _) => some false
  | .ifc _ _ => some false
  | _ => none
theorem nilB_val {A : Nat → Prop} {w : World} {x : AV} {b : Bool} {v : Value} (h : nilB x = some b) (hr : R A w x v) : (b = true ∧ v = .nilIface) ∨ (b = false ∧ ∃ q u, v = .iface q u) := by
  cases x with
  | sc u =>
    have := R_sc hr
    subst this
    cases v <;> simp [nilB] at h
    · exact .inr ⟨h, _, _, rfl⟩
    · exact .inl ⟨h, rfl⟩
  | ifc q y =>
    simp only [R] at hr
    obtain ⟨u, rfl, _⟩ := hr
    simp [nilB] at h
    exact .inr ⟨h, _, _, rfl⟩
  | _ => simp [nilB] at h

theorem om_nil_eql {t t' : TypeId} {x : Operand} {u : AV} {b : Bool} {ms : Array (String × TypeId)} {K : AV → Store → Prop} {E : List PanicEntry → Store → Prop} {d' : Option Tmp} (hu : P.underlying t = some (.interface ms)) (hx : get L x = some u) (hb : nilB u = some b) (hk : K (.sc (.bool b)) σ) :
    OM P N ⟨d', .binOp .eql t x (.const .nilIface) t', ty, ps, af, g⟩ L σ K E :=
  om_val _ (fun A w a _ ho => by
    have h1 := ho x (by simp [Op.operands]) _ hx
    refine ⟨_, ?_, R_sc_mk _⟩
    rcases nilB_val hb h1 with ⟨rfl, hv⟩ | ⟨rfl, q, v, hv⟩
    · simp only [execOp, hv]
      rw [show a.eval (.const .nilIface) = .nilIface from rfl, binOp_eql_nil t _ (.inl rfl)]
      simp only [Sem.run_bind, eqGuard_const (P := P) .eql t x .nilIface .nilIface rfl, Result.andThen_ok, run_eq_nil hu, Sem.run_pure]
    · simp only [execOp, hv]
      rw [show a.eval (.const .nilIface) = .nilIface from rfl, binOp_eql_nil t _ (.inr ⟨q, v, rfl⟩)]
      simp only [Sem.run_bind, eqGuard_const (P := P) .eql t x .nilIface (.iface q v) rfl, Result.andThen_ok, run_eq_iface_nil hu, Sem.run_pure]) hk
theorem om_nil_neq {t t' : TypeId} {x : Operand} {u : AV} {b : Bool} {ms : Array (String × TypeId)} {K : AV → Store → Prop} {E : List PanicEntry → Store → Prop} {d' : Option Tmp} (hu : P.underlying t = some (.interface ms)) (hx : get L x = some u) (hb : nilB u = some b) (hk : K (.sc (.bool (!b))) σ) :
    OM P N ⟨d', .binOp .neq t x (.const .nilIface) t', ty, ps, af, g⟩ L σ K E :=
  om_val _ (fun A w a _ ho => by
    have h1 := ho x (by simp [Op.operands]) _ hx
    refine ⟨_, ?_, R_sc_mk _⟩
    rcases nilB_val hb h1 with ⟨rfl, hv⟩ | ⟨rfl, q, v, hv⟩
    · simp only [execOp, hv]
      rw [show a.eval (.const .nilIface) = .nilIface from rfl, binOp_neq_nil t _ (.inl rfl)]
      simp only [Sem.run_bind, eqGuard_const (P := P) .neq t x .nilIface .nilIface rfl, Result.andThen_ok, run_eq_nil hu, Sem.run_pure]
    · simp only [execOp, hv]
      rw [show a.eval (.const .nilIface) = .nilIface from rfl, binOp_neq_nil t _ (.inr ⟨q, v, rfl⟩)]
      simp only [Sem.run_bind, eqGuard_const (P := P) .neq t x .nilIface (.iface q v) rfl, Result.andThen_ok, run_eq_iface_nil hu, Sem.run_pure]) hk

end Go.Gw
