/- The operations on memory: loads, stores, fields, places of slices, new variables. -/
import Derived.Test.YtkloiehincgblaaDoorGwOps
namespace Go.Gw
variable {P : Program} {N : Nat} {L : Slots} {σ : Store} {K : AV → Store → Prop} {E : List PanicEntry → Store → Prop}
variable {d : Option Tmp} {ty : TypeId} {ps : String} {af : Array Edge} {g : Option (Nat × Bool)}

/-- A type: is it a struct or an array; how many cells. -/
def tyOf (P : Program) (t : TypeId) : Option (Bool × Nat) := match P.underlying t, P.info? t with
  | some q, some i => some (match q with | .struct _ | .array _ _ => true | _ => false, i.size)
  | _, _ => none

theorem run_sizeOf {t : TypeId} {b : Bool} {n : Nat} (h : tyOf P t = some (b, n)) (w : World) : (sizeOf t).run P w = .ok n w := by
  unfold tyOf at h
  split at h
  · rename_i q i h1 h2
    simp only [Option.some.injEq, Prod.mk.injEq] at h
    simp [sizeOf, typeInfo, h2, h.2]
  · cases h

theorem run_isAgg {t : TypeId} {b : Bool} {n : Nat} (h : tyOf P t = some (b, n)) (w : World) : (isAgg t).run P w = .ok b w := by
  unfold tyOf at h
  split at h
  · rename_i q i h1 h2
    simp only [Option.some.injEq, Prod.mk.injEq] at h
    obtain ⟨rfl, _⟩ := h
    simp only [isAgg, underlying, Sem.run_bind, run_program, Result.andThen_ok, h1, Sem.run_pure]
    cases q <;> rfl
  · cases h

theorem add_none (b o j : Nat) : (⟨b, o, none⟩ : Addr).add j = ⟨b, o + j, none⟩ := by unfold Addr.add; split <;> simp_all

theorem run_loadVar_scal {t : TypeId} {n : Nat} (h : tyOf P t = some (false, n)) {a : Addr} {v : Value} {w : World} (hc : w.cell? a = some v) : (loadVar t a).run P w = .ok v w := by
  simp [loadVar, run_isAgg h, hc]

theorem run_loadVar_agg {t : TypeId} {n : Nat} (h : tyOf P t = some (true, n)) {b o : Nat} {cs : List Value} {w : World} (hn : cs.length = n) (hm : Mem w b o cs) :
    (loadVar t ⟨b, o, none⟩).run P w = .ok (.agg cs.toArray) w := by
  have := run_loadCells_list (P := P) w ⟨b, o, none⟩ cs (fun j v hv => by rw [add_none]; exact hm j v hv)
  rw [hn] at this
  simp [loadVar, run_isAgg h, run_sizeOf h, this]

/-- The cells of a value. -/
def AV.cells : AV → List AV
  | .agg xs => xs
  | .sc (.agg cs) => cs.toList.map .sc
  | y => [y]

theorem RL_sc {A : Nat → Prop} {w : World} : ∀ (cs : List Value), RL A w (cs.map .sc) cs
  | [] => by simp only [List.map_nil, RL]
  | c :: cs => by
    simp only [List.map_cons, RL]
    exact ⟨c, cs, rfl, R_sc_mk c, RL_sc cs⟩

theorem RL_one {A : Nat → Prop} {w : World} {x : AV} {v : Value} (h : R A w x v) : RL A w [x] [v] := by
  simp only [RL]
  exact ⟨v, [], rfl, h, rfl⟩

theorem R_cells {A : Nat → Prop} {w : World} {x : AV} {v : Value} (h : R A w x v) : RL A w x.cells v.cells.toList := by
  cases x with
  | sc u =>
    have := R_sc h
    subst this
    cases v <;> first
      | exact RL_one h
      | exact RL_sc _
  | agg xs => simp only [R] at h; obtain ⟨cs, rfl, hl⟩ := h; simpa [AV.cells, Value.cells] using hl
  | tup xs => have h' := h; simp only [R] at h'; obtain ⟨cs, rfl, _⟩ := h'; exact RL_one h
  | slv e xs => have h' := h; simp only [R] at h'; obtain ⟨a, c, rfl, _⟩ := h'; exact RL_one h
  | ref y off => have h' := h; simp only [R] at h'; obtain ⟨b, o, u, rfl, _⟩ := h'; exact RL_one h
  | ifc t y => have h' := h; simp only [R] at h'; obtain ⟨u, rfl, _⟩ := h'; exact RL_one h
  | fn f xs ys => have h' := h; simp only [R] at h'; obtain ⟨as, bs, rfl, _⟩ := h'; exact RL_one h

theorem RL_append {A : Nat → Prop} {w : World} : ∀ {xs ys : List AV} {us vs : List Value}, RL A w xs us → RL A w ys vs → RL A w (xs ++ ys) (us ++ vs)
  | [], ys, us, vs, h1, h2 => by simp only [RL] at h1; subst h1; exact h2
  | x :: xs, ys, us, vs, h1, h2 => by
    simp only [RL] at h1
    obtain ⟨v, r, rfl, h3, h4⟩ := h1
    simp only [List.cons_append, RL]
    exact ⟨v, r ++ vs, rfl, h3, RL_append h4 h2⟩

theorem RL_take {A : Nat → Prop} {w : World} : ∀ {xs : List AV} {us : List Value} (n : Nat), RL A w xs us → RL A w (xs.take n) (us.take n)
  | [], us, n, h => by simp only [RL] at h; subst h; simp [RL]
  | x :: xs, us, 0, h => by simp [RL]
  | x :: xs, us, n + 1, h => by
    simp only [RL] at h
    obtain ⟨v, r, rfl, h3, h4⟩ := h
    simp only [List.take_succ_cons, RL]
    exact ⟨v, r.take n, rfl, h3, RL_take n h4⟩

theorem RL_drop {A : Nat → Prop} {w : World} : ∀ {xs : List AV} {us : List Value} (n : Nat), RL A w xs us → RL A w (xs.drop n) (us.drop n)
  | [], us, n, h => by simp only [RL] at h; subst h; simp [RL]
  | x :: xs, us, 0, h => h
  | x :: xs, us, n + 1, h => by
    simp only [RL] at h
    obtain ⟨v, r, rfl, h3, h4⟩ := h
    exact RL_drop n h4

/-- What a load of a type takes out of cells at a place. -/
def pick (agg : Bool) (n off : Nat) (cs : List AV) : Option AV := match agg with
  | true => cond (Nat.ble (off + n) cs.length) (some (.agg ((cs.drop off).take n))) none
  | false => cs[off]?

theorem run_pick {A : Nat → Prop} {w : World} {t : TypeId} {ag : Bool} {n off b o : Nat} {cs : List AV} {vs : List Value} {y : AV} (h : tyOf P t = some (ag, n)) (hy : pick ag n off cs = some y) (hr : RL A w cs vs)
    (hm : Mem w b o vs) : ∃ v, (loadVar t ⟨b, o + off, none⟩).run P w = .ok v w ∧ R A w y v := by
  have hlen := hr.length
  cases ag with
  | false =>
    obtain ⟨v, h1, h2⟩ := hr.get off y hy
    exact ⟨v, run_loadVar_scal h (hm off v h1), h2⟩
  | true =>
    simp only [pick] at hy
    cases hb : Nat.ble (off + n) cs.length with
    | false => simp [hb] at hy
    | true =>
      have hle := Nat.le_of_ble_eq_true hb
      simp only [hb, cond_true, Option.some.injEq] at hy
      subst hy
      refine ⟨.agg ((vs.drop off).take n).toArray, run_loadVar_agg h (by simp; omega) (fun j v hv => ?_), ?_⟩
      · rw [List.getElem?_take] at hv
        split at hv
        · rw [List.getElem?_drop] at hv
          have := hm (off + j) v hv
          rwa [← Nat.add_assoc] at this
        · cases hv
      · simp only [R]
        exact ⟨_, rfl, RL_take n (RL_drop off hr)⟩

theorem om_load_ref {t : TypeId} {ag : Bool} {n : Nat} {p : Operand} {x : AV} {off : Nat} {y : AV} (ht : tyOf P t = some (ag, n)) (hp : get L p = some (.ref x off)) (hy : pick ag n off x.cells = some y) (hk : K y σ) :
    OM P N ⟨d, .load t p, ty, ps, af, g⟩ L σ K E :=
  om_val y (fun A w a _ ho => by
    have h1 := ho p (by simp [Op.operands]) _ hp
    simp only [R] at h1
    obtain ⟨b, o, v, h1, _, h2, h3⟩ := h1
    obtain ⟨u, h4, h5⟩ := run_pick ht hy (R_cells h2) h3
    exact ⟨u, by simp [execOp, h1, Instr.loadAt, Instr.sureAddr, h4], h5⟩) hk

theorem Good.mem {A : Nat → Prop} {w : World} (hg : Good A w σ) {k : Nat} {t : TypeId} {n : Nat} {cs : List AV} (hk : σ k = some (.cells t n cs)) :
    ∃ C D : List Value, w.heap[k]? = some (.cells (C ++ D).toArray t (0, 0)) ∧ (C ++ D).length = n ∧ RL A w cs C ∧ Mem w k 0 C := by
  obtain ⟨C, D, h1, h2, h3⟩ := hg.own k _ hk
  refine ⟨C, D, h1, h2, h3, fun j v hv => ?_⟩
  unfold World.cell?
  simp only [Nat.zero_add, h1]
  have hj : j < C.length := (List.getElem?_eq_some_iff.1 hv).1
  simp [List.getElem?_append_left hj, hv]

theorem om_load_own {t tb : TypeId} {ag : Bool} {n m : Nat} {p : Operand} {k off : Nat} {cs : List AV} {y : AV} (ht : tyOf P t = some (ag, n)) (hp : get L p = some (.sc (.pointer (some ⟨k, off, none⟩))))
    (ho : σ k = some (.cells tb m cs)) (hy : pick ag n off cs = some y) (hk : K y σ) : OM P N ⟨d, .load t p, ty, ps, af, g⟩ L σ K E :=
  om_val y (fun A w a hg hop => by
    have h1 := R_sc (hop p (by simp [Op.operands]) _ hp)
    obtain ⟨C, D, _, _, h3, h4⟩ := hg.mem ho
    obtain ⟨u, h5, h6⟩ := run_pick (off := off) ht hy h3 h4
    rw [Nat.zero_add] at h5
    exact ⟨u, by simp [execOp, h1, Instr.loadAt, Instr.sureAddr, h5], h6⟩) hk

/-! ### Places -/
def fldOf (P : Program) (s : TypeId) (f : Nat) : Option Nat := match P.underlying s with
  | some (.struct fs) => match fs[f]? with
    | some q => match P.info? q.type with
      | some i => cond (Nat.beq i.size 0) none (some q.offset)
      | none => none
    | none => none
  | _ => none

theorem run_field {s : TypeId} {f off : Nat} (h : fldOf P s f = some off) (b o : Nat) (w : World) : (Instr.fieldAt s (.pointer (some ⟨b, o, none⟩)) f).run P w = .ok (.pointer (some ⟨b, o + off, none⟩)) w := by
  unfold fldOf at h
  split at h
  · rename_i fs hu
    split at h
    · rename_i q hq
      split at h
      · rename_i i hi
        cases hz : Nat.beq i.size 0 with
        | true => simp [hz] at h
        | false =>
          simp only [hz, cond_false, Option.some.injEq] at h
          subst h
          have hz' : i.size ≠ 0 := fun e => by rw [e] at hz; cases hz
          simp [Instr.fieldAt, underlying, hu, hq, Instr.sureAddr, fieldPlace, sizeOf, typeInfo, hi, hz', add_none]
      · cases h
    · cases h
  · cases h

theorem om_fieldAddr_ref {s : TypeId} {p : Operand} {f off o' : Nat} {x : AV} (hf : fldOf P s f = some off) (hp : get L p = some (.ref x o')) (hk : K (.ref x (o' + off)) σ) : OM P N ⟨d, .fieldAddr s p f, ty, ps, af, g⟩ L σ K E :=
  om_val _ (fun A w a _ ho => by
    have h1 := ho p (by simp [Op.operands]) _ hp
    simp only [R] at h1
    obtain ⟨b, o, v, h1, hb, h2, h3⟩ := h1
    refine ⟨.pointer (some ⟨b, o + o' + off, none⟩), by simp [execOp, h1, run_field hf], ?_⟩
    simp only [R]
    exact ⟨b, o, v, by rw [Nat.add_assoc], hb, h2, h3⟩) hk
theorem om_fieldAddr_own {s : TypeId} {p : Operand} {f off k o : Nat} (hf : fldOf P s f = some off) (hp : get L p = some (.sc (.pointer (some ⟨k, o, none⟩)))) (hk : K (.sc (.pointer (some ⟨k, o + off, none⟩))) σ) :
    OM P N ⟨d, .fieldAddr s p f, ty, ps, af, g⟩ L σ K E :=
  om_val _ (fun A w a _ ho => by
    have h1 := R_sc (ho p (by simp [Op.operands]) _ hp)
    exact ⟨_, by simp [execOp, h1, run_field hf], R_sc_mk _⟩) hk

theorem om_nilCheck_ref {x : Operand} {y : AV} {off : Nat} (hx : get L x = some (.ref y off)) (hk : K (.ref y off) σ) : OM P N ⟨d, .nilCheck x, ty, ps, af, g⟩ L σ K E :=
  om_val _ (fun A w a _ ho => by
    have h1 := ho x (by simp [Op.operands]) _ hx
    have h1' := h1
    simp only [R] at h1'
    obtain ⟨b, o, v, h2, _⟩ := h1'
    exact ⟨a.eval x, by simp [execOp, h2], h1⟩) hk
theorem om_nilCheck_own {x : Operand} {p : Addr} (hx : get L x = some (.sc (.pointer (some p)))) (hk : K (.sc (.pointer (some p))) σ) : OM P N ⟨d, .nilCheck x, ty, ps, af, g⟩ L σ K E :=
  om_val _ (fun A w a _ ho => by
    have h1 := R_sc (ho x (by simp [Op.operands]) _ hx)
    exact ⟨_, by simp [execOp, h1], R_sc_mk _⟩) hk

theorem RE_get {A : Nat → Prop} {w : World} {e b : Nat} : ∀ {xs : List AV} {o : Nat} (j : Nat) (x : AV), RE A w e xs b o → xs[j]? = some x → ∃ v, R A w x v ∧ v.cells.size = e ∧ Mem w b (o + j * e) v.cells.toList
  | [], o, j, x, _, h => by simp at h
  | y :: ys, o, 0, x, hr, h => by
    simp only [RE] at hr
    simp at h
    subst h
    simpa using hr.1
  | y :: ys, o, j + 1, x, hr, h => by
    simp only [RE] at hr
    obtain ⟨v, h1, h2, h3⟩ := RE_get j x hr.2 (by simpa using h)
    refine ⟨v, h1, h2, ?_⟩
    rw [show o + (j + 1) * e = o + e + j * e by rw [Nat.add_mul]; omega]
    exact h3

theorem RE_drop {A : Nat → Prop} {w : World} {e b : Nat} : ∀ {xs : List AV} {o : Nat} (l : Nat), RE A w e xs b o → RE A w e (xs.drop l) b (o + l * e)
  | xs, o, 0, h => by simpa using h
  | [], o, l + 1, h => by simp [RE]
  | x :: xs, o, l + 1, h => by
    simp only [RE] at h
    have := RE_drop l h.2
    rw [show o + (l + 1) * e = o + e + l * e by rw [Nat.add_mul]; omega]
    exact this
theorem RE_take {A : Nat → Prop} {w : World} {e b : Nat} : ∀ {xs : List AV} {o : Nat} (n : Nat), RE A w e xs b o → RE A w e (xs.take n) b o
  | [], o, n, h => by simp [RE]
  | x :: xs, o, 0, h => by simp [RE]
  | x :: xs, o, n + 1, h => by
    simp only [RE] at h
    simp only [List.take_succ_cons, RE]
    exact ⟨h.1, RE_take n h.2⟩

/-- A slice's element type. -/
def elmOf (P : Program) (t : TypeId) : Option (TypeId × Nat) := match P.underlying t with
  | some (.slice el) => match P.info? el with
    | some i => some (el, i.size)
    | none => none
  | _ => none
theorem elmOf_und {t el : TypeId} {e : Nat} (h : elmOf P t = some (el, e)) : P.underlying t = some (.slice el) ∧ ∀ w, (sizeOf el).run P w = .ok e w := by
  unfold elmOf at h
  split at h
  · rename_i el' hu
    split at h
    · rename_i i hi
      simp only [Option.some.injEq, Prod.mk.injEq] at h
      obtain ⟨rfl, rfl⟩ := h
      exact ⟨hu, fun w => by simp [sizeOf, typeInfo, hi]⟩
    · cases h
  · cases h

theorem om_indexAddr_slv {t el : TypeId} {e : Nat} {x i : Operand} {xs : List AV} {k : IntKind} {n : Int} {y : AV} (he : elmOf P t = some (el, e)) (hx : get L x = some (.slv e xs)) (hi : get L i = some (.sc (.int k n)))
    (h0 : 0 ≤ n) (hy : xs[n.toNat]? = some y) (hk : K (.ref y 0) σ) : OM P N ⟨d, .indexAddr t x i, ty, ps, af, g⟩ L σ K E :=
  om_val _ (fun A w a _ ho => by
    obtain ⟨hu, hs⟩ := elmOf_und he
    have h1 := ho x (by simp [Op.operands]) _ hx
    have h2 := R_sc (ho i (by simp [Op.operands]) _ hi)
    simp only [R] at h1
    obtain ⟨p, c, h1, _, _, h4⟩ := h1
    have hlt : n.toNat < xs.length := (List.getElem?_eq_some_iff.1 hy).1
    rcases h4 with rfl | ⟨b, o, rfl, hb, hre⟩
    · simp at hlt
    · obtain ⟨v, h5, h6, h7⟩ := RE_get n.toNat y hre hy
      have hlt' : n < xs.length := by omega
      refine ⟨.pointer (some ⟨b, o + n.toNat * e, none⟩), ?_, ?_⟩
      · simp [execOp, h1, h2, Instr.indexAt, asIntOf, underlying, hu, h0, hlt', hs, add_none]
      · simp only [R]
        exact ⟨b, o + n.toNat * e, v, rfl, hb, h5, h7⟩) hk

theorem om_indexAddr_own {t el : TypeId} {e : Nat} {x i : Operand} {b o m c : Nat} {k : IntKind} {n : Int} (he : elmOf P t = some (el, e)) (hx : get L x = some (.sc (.slice (some ⟨b, o, none⟩) m c))) (hi : get L i = some (.sc (.int k n)))
    (h0 : 0 ≤ n) (h1 : n < m) (hk : K (.sc (.pointer (some ⟨b, o + n.toNat * e, none⟩))) σ) : OM P N ⟨d, .indexAddr t x i, ty, ps, af, g⟩ L σ K E :=
  om_val _ (fun A w a _ ho => by
    obtain ⟨hu, hs⟩ := elmOf_und he
    have e1 := R_sc (ho x (by simp [Op.operands]) _ hx)
    have e2 := R_sc (ho i (by simp [Op.operands]) _ hi)
    exact ⟨_, by simp [execOp, e1, e2, Instr.indexAt, asIntOf, underlying, hu, h0, h1, hs, add_none], R_sc_mk _⟩) hk

/-! ### Parts of values -/
theorem om_extract {x : Operand} {j : Nat} {xs : List AV} {y : AV} (hx : get L x = some (.tup xs)) (hy : xs[j]? = some y) (hk : K y σ) : OM P N ⟨d, .extract x j, ty, ps, af, g⟩ L σ K E :=
  om_val _ (fun A w a _ ho => by
    have h1 := ho x (by simp [Op.operands]) _ hx
    simp only [R] at h1
    obtain ⟨cs, h1, h2⟩ := h1
    obtain ⟨v, h3, h4⟩ := h2.get j y hy
    exact ⟨v, by simp [execOp, h1, Instr.extract, h3], h4⟩) hk

def fldPart (P : Program) (s : TypeId) (f : Nat) : Option (Nat × TypeId) := match P.underlying s with
  | some (.struct fs) => match fs[f]? with
    | some q => some (q.offset, q.type)
    | none => none
  | _ => none
theorem om_field {s : TypeId} {x : Operand} {f off n : Nat} {ft : TypeId} {ag : Bool} {xs : List AV} {y : AV} (hf : fldPart P s f = some (off, ft)) (ht : tyOf P ft = some (ag, n)) (hx : get L x = some (.agg xs)) (hy : pick ag n off xs = some y)
    (hk : K y σ) : OM P N ⟨d, .field s x f, ty, ps, af, g⟩ L σ K E :=
  om_val _ (fun A w a _ ho => by
    have h1 := ho x (by simp [Op.operands]) _ hx
    simp only [R] at h1
    obtain ⟨cs, h1, h2⟩ := h1
    have hlen := h2.length
    unfold fldPart at hf
    split at hf
    · rename_i fs hu
      split at hf
      · rename_i q hq
        simp only [Option.some.injEq, Prod.mk.injEq] at hf
        obtain ⟨rfl, rfl⟩ := hf
        have hrun : ∀ v, (part q.type cs.toArray q.offset).run P w = .ok v w → (execOp a.eval ⟨d, .field s x f, ty, ps, af, g⟩).run P w = .ok (.value v) w := by
          intro v hv
          simp [execOp, h1, Instr.field, underlying, hu, hq, asAgg, hv]
        cases ag with
        | false =>
          obtain ⟨v, h3, h4⟩ := h2.get q.offset y hy
          exact ⟨v, hrun v (by simp [part, run_isAgg ht, h3]), h4⟩
        | true =>
          simp only [pick] at hy
          cases hb : Nat.ble (q.offset + n) xs.length with
          | false => simp [hb] at hy
          | true =>
            simp only [hb, cond_true, Option.some.injEq] at hy
            subst hy
            refine ⟨_, hrun _ (by simp [part, run_isAgg ht, run_sizeOf ht]; rfl), ?_⟩
            simp only [R]
            refine ⟨(cs.drop q.offset).take n, ?_, RL_take n (RL_drop q.offset h2)⟩
            simp
      · cases hf
    · cases hf) hk

def isIface : TypeDesc → Bool
  | .interface _ => true
  | _ => false

theorem om_iface_sc {t : TypeId} {q : TypeDesc} {x : Operand} {v : Value} (hu : P.underlying t = some q) (hq : isIface q = false) (hx : get L x = some (.sc v)) (hk : K (.sc (.iface t v)) σ) : OM P N ⟨d, .makeInterface t x, ty, ps, af, g⟩ L σ K E :=
  om_val _ (fun A w a _ ho => by
    have h1 := R_sc (ho x (by simp [Op.operands]) _ hx)
    refine ⟨_, ?_, R_sc_mk _⟩
    simp only [execOp, h1, Instr.makeInterface, underlying, Sem.run_bind, run_program, Result.andThen_ok, hu, Sem.run_pure]
    cases q <;> first | rfl | cases hq) hk
theorem om_iface {t : TypeId} {q : TypeDesc} {x : Operand} {y : AV} (hu : P.underlying t = some q) (hq : isIface q = false) (hx : get L x = some y) (hk : K (.ifc t y) σ) : OM P N ⟨d, .makeInterface t x, ty, ps, af, g⟩ L σ K E :=
  om_val _ (fun A w a _ ho => by
    have h1 := ho x (by simp [Op.operands]) _ hx
    refine ⟨.iface t (a.eval x), ?_, by simp only [R]; exact ⟨_, rfl, h1⟩⟩
    simp only [execOp, Instr.makeInterface, underlying, Sem.run_bind, run_program, Result.andThen_ok, hu, Sem.run_pure]
    cases q <;> first | rfl | cases hq) hk

theorem om_makeFunc {f : Fn} {xs ys : Array Operand} {us vs : List AV} (hx : xs.toList.mapM (get L) = some us) (hy : ys.toList.mapM (get L) = some vs) (hk : K (.fn f us vs) σ) : OM P N ⟨d, .makeFunc f xs ys, ty, ps, af, g⟩ L σ K E :=
  om_val _ (fun A w a _ ho => by
    have key : ∀ (l : List Operand) (us : List AV), (∀ x ∈ l, ∀ y, get L x = some y → R A w y (a.eval x)) → l.mapM (get L) = some us → RL A w us (l.map a.eval) := by
      intro l
      induction l with
      | nil => intro us _ h; simp at h; subst h; simp [RL]
      | cons o l ih =>
        intro us hl h
        rw [List.mapM_cons] at h
        cases hg : get L o with
        | none => simp [hg] at h
        | some y =>
          cases hm : l.mapM (get L) with
          | none => simp [hg, hm] at h
          | some ys =>
            simp [hg, hm] at h
            subst h
            simp only [List.map_cons, RL]
            exact ⟨_, _, rfl, hl o (by simp) y hg, ih ys (fun x hx => hl x (by simp [hx])) hm⟩
    refine ⟨.func f (xs.map a.eval) (ys.map a.eval), by simp [execOp, Instr.makeFunc], ?_⟩
    simp only [R]
    refine ⟨xs.toList.map a.eval, ys.toList.map a.eval, ?_, key _ _ (fun x hx => ho x (by simp [Op.operands, Array.mem_toList_iff.1 hx])) hx, key _ _ (fun x hx => ho x (by simp [Op.operands, Array.mem_toList_iff.1 hx])) hy⟩
    have hm : ∀ zs : Array Operand, zs.map a.eval = (zs.toList.map a.eval).toArray := fun zs => by apply Array.ext'; simp
    rw [← hm, ← hm]) hk

end Go.Gw
