/- New variables, stores, slices that are made, appends. -/
import Derived.Test.YtkloiehincgblaaDoorGwMem
namespace Go.Gw
variable {P : Program} {N : Nat} {L : Slots} {σ : Store} {K : AV → Store → Prop} {E : List PanicEntry → Store → Prop}
variable {d : Option Tmp} {ty : TypeId} {ps : String} {af : Array Edge} {g : Option (Nat × Bool)}

def setBlk (w : World) (k : Nat) (o : Obj) : World := { w with heap := w.heap.setIfInBounds k o }
theorem setBlk_other (w : World) {k : Nat} (o : Obj) {j : Nat} (h : j ≠ k) : (setBlk w k o).heap[j]? = w.heap[j]? := by
  simp only [setBlk, Array.getElem?_setIfInBounds]
  rw [if_neg (fun e => h e.symm)]
theorem setBlk_same (w : World) {k : Nat} (o : Obj) (h : k < w.heap.size) : (setBlk w k o).heap[k]? = some o := by
  simp only [setBlk, Array.getElem?_setIfInBounds, if_true]
  rw [if_pos h]
theorem setBlk_size (w : World) (k : Nat) (o : Obj) : (setBlk w k o).heap.size = w.heap.size := by simp [setBlk]
theorem setBlk_twice (w : World) (k : Nat) (o p : Obj) : setBlk (setBlk w k o) k p = setBlk w k p := by
  unfold setBlk
  congr 1
  apply Array.ext_getElem?
  intro j
  simp only [Array.getElem?_setIfInBounds]
  split <;> simp

theorem ext_set {A : Nat → Prop} {w : World} {k : Nat} (o : Obj) (h : ¬ A k) : Ext A w A (setBlk w k o) :=
  ⟨fun _ h => h, fun b hb => setBlk_other w o (fun e => h (e ▸ hb)), by rw [setBlk_size]; exact Nat.le_refl _, rfl, rfl, rfl⟩

theorem good_set {A : Nat → Prop} {w : World} (hg : Good A w σ) {k : Nat} {o₀ : AObj} (hk : σ k = some o₀) (hm : o₀.mine = true) {o : Obj} {o' : AObj} (ho : RO A (setBlk w k o) k o') : Good A (setBlk w k o) (σ.set k o') := by
  have he : Ext A w A (setBlk w k o) := ext_set o (hg.away k _ hk hm)
  refine ⟨fun b hb => by rw [setBlk_size]; exact hg.inb b hb, fun j p hj hp => ?_, fun j p hj => ?_⟩
  · by_cases e : j = k
    · subst e; exact hg.away j _ hk hm
    · rw [Store.set_other _ _ _ e] at hj; exact hg.away j p hj hp
  · by_cases e : j = k
    · subst e; rw [Store.set_same] at hj; cases hj; exact ho
    · rw [Store.set_other _ _ _ e] at hj
      exact (hg.own j p hj).ext he (setBlk_other w o e)

theorem alloc_new (w : World) (o : Obj) : (w.alloc o).heap[w.heap.size]? = some o := by
  show (w.heap.push o)[w.heap.size]? = some o
  simp
theorem Good.none {A : Nat → Prop} {w : World} (hg : Good A w σ) {k : Nat} (h : w.heap.size ≤ k) : σ k = none := by
  cases hk : σ k with
  | none => rfl
  | some o => have := hg.lt hk; omega

theorem ext_alloc {A : Nat → Prop} {w : World} (hg : Good A w σ) (o : Obj) : Ext A w A (w.alloc o) :=
  ⟨fun _ h => h, fun b hb => Go.RowKit.Below.heap_alloc w o b (hg.inb b hb), by simp, rfl, rfl, rfl⟩

theorem good_alloc {A : Nat → Prop} {w : World} (hg : Good A w σ) {o : Obj} {o' : AObj} (ho : RO A (w.alloc o) w.heap.size o') : Good A (w.alloc o) (σ.set w.heap.size o') := by
  have he := ext_alloc hg o
  refine ⟨fun b hb => by have := hg.inb b hb; simp; omega, fun j p hj hp => ?_, fun j p hj => ?_⟩
  · by_cases e : j = w.heap.size
    · subst e; intro ha; have := hg.inb _ ha; omega
    · rw [Store.set_other _ _ _ e] at hj; exact hg.away j p hj hp
  · by_cases e : j = w.heap.size
    · subst e; rw [Store.set_same] at hj; cases hj; exact ho
    · rw [Store.set_other _ _ _ e] at hj
      exact (hg.own j p hj).ext he (Go.RowKit.Below.heap_alloc w o j (hg.lt hj))

/-- One block more that never turns. -/
def plus (A : Nat → Prop) (k : Nat) : Nat → Prop := fun b => A b ∨ b = k
theorem ext_plus {A : Nat → Prop} {w : World} (hg : Good A w σ) (o : Obj) : Ext A w (plus A w.heap.size) (w.alloc o) :=
  ⟨fun _ h => .inl h, fun b hb => Go.RowKit.Below.heap_alloc w o b (hg.inb b hb), by simp, rfl, rfl, rfl⟩
theorem good_plus {A : Nat → Prop} {w : World} (hg : Good A w σ) (o : Obj) : Good (plus A w.heap.size) (w.alloc o) σ := by
  have he := ext_plus hg o
  refine ⟨fun b hb => ?_, fun j p hj hp ha => ?_, fun j p hj => (hg.own j p hj).ext he (Go.RowKit.Below.heap_alloc w o j (hg.lt hj))⟩
  · rcases hb with hb | rfl
    · have := hg.inb b hb; simp; omega
    · simp
  · rcases ha with ha | rfl
    · exact hg.away j p hj hp ha
    · exact absurd (hg.lt hj) (by omega)

/-! ### Stores -/
def rep (C : List Value) (j : Nat) (vs : List Value) : List Value := C.take j ++ vs ++ C.drop (j + vs.length)
theorem rep_length {C : List Value} {j : Nat} {vs : List Value} (h : j + vs.length ≤ C.length) : (rep C j vs).length = C.length := by simp [rep]; omega
theorem rep_cons {C : List Value} {j : Nat} {v : Value} {vs : List Value} (h : j + (v :: vs).length ≤ C.length) : rep (C.set j v) (j + 1) vs = rep C j (v :: vs) := by
  have hj : j < C.length := by simp at h; omega
  unfold rep
  have h1 : (C.set j v).take (j + 1) = C.take j ++ [v] := by
    rw [List.take_succ_eq_append_getElem (by simpa using hj), List.take_set_of_le (Nat.le_refl j)]
    simp
  rw [h1, List.drop_set_of_lt (by omega)]
  simp [Nat.add_assoc, Nat.add_comm 1 vs.length]

theorem setCell_blk {w : World} {k o : Nat} {C : List Value} {t : TypeId} (h : w.heap[k]? = some (.cells C.toArray t (0, 0))) (v : Value) :
    w.setCell ⟨k, o, none⟩ v = setBlk w k (.cells (C.set o v).toArray t (0, 0)) := by
  unfold World.setCell setBlk
  congr 1
  apply Array.ext_getElem?
  intro j
  simp only [Array.getElem?_modify, Array.getElem?_setIfInBounds]
  by_cases e : k = j
  · subst e
    have hlt := (Array.getElem?_eq_some_iff.1 h).1
    rw [if_pos rfl, if_pos rfl, if_pos hlt, h]
    simp
  · rw [if_neg e, if_neg e]

theorem run_storeCells {k : Nat} {t : TypeId} : ∀ (vs : List Value) (w : World) (C : List Value) (o i : Nat), w.heap[k]? = some (.cells C.toArray t (0, 0)) → o + i + vs.length ≤ C.length → (∀ v ∈ vs, v.oneCell' = true) →
    (storeCells ⟨k, o, none⟩ vs i).run P w = .ok () (setBlk w k (.cells (rep C (o + i) vs).toArray t (0, 0)))
  | [], w, C, o, i, h, _, _ => by
    have : setBlk w k (.cells (rep C (o + i) []).toArray t (0, 0)) = w := by
      unfold setBlk
      have hr : rep C (o + i) [] = C := by simp [rep]
      rw [hr]
      cases w
      simp only [World.mk.injEq, and_true]
      apply Array.ext_getElem?
      intro j
      simp only [Array.getElem?_setIfInBounds]
      by_cases e : k = j
      · subst e
        have hlt := (Array.getElem?_eq_some_iff.1 h).1
        rw [if_pos rfl, if_pos hlt, h]
      · rw [if_neg e]
    rw [this]
    rfl
  | v :: vs, w, C, o, i, h, hlen, hone => by
    have hlt := (Array.getElem?_eq_some_iff.1 h).1
    have hj : o + i < C.length := by simp at hlen; omega
    have hc : w.cell? ⟨k, o + i, none⟩ = some C[o + i] := by
      unfold World.cell?
      simp [h, List.getElem?_eq_getElem hj]
    have hf : w.frozen? ⟨k, o + i, none⟩ = false := by
      unfold World.frozen?
      simp [h]
    have hs : (store ((⟨k, o, none⟩ : Addr).add i) v).run P w = .ok () (setBlk w k (.cells (C.set (o + i) v).toArray t (0, 0))) := by
      rw [add_none, run_store P w _ v _ (hone v (by simp)), hc]
      simp [hf, setCell_blk h]
    have hb : (setBlk w k (.cells (C.set (o + i) v).toArray t (0, 0))).heap[k]? = some (.cells (C.set (o + i) v).toArray t (0, 0)) := setBlk_same w _ hlt
    have ih := run_storeCells vs _ _ o (i + 1) hb (by simp at hlen ⊢; omega) (fun u hu => hone u (by simp [hu]))
    rw [setBlk_twice, ← Nat.add_assoc, rep_cons (by simp at hlen ⊢; omega)] at ih
    show (store ((⟨k, o, none⟩ : Addr).add i) v >>= fun _ => storeCells ⟨k, o, none⟩ vs (i + 1)).run P w = _
    rw [Sem.run_bind, hs, Result.andThen_ok, ih]

/-- Of one cell. -/
def AV.one : AV → Bool
  | .sc v => v.oneCell'
  | .agg _ | .tup _ => false
  | _ => true
theorem R_one {A : Nat → Prop} {w : World} {x : AV} {v : Value} (h : R A w x v) (ho : x.one = true) : v.oneCell' = true := by
  cases x with
  | sc u => rw [R_sc h]; exact ho
  | agg xs => cases ho
  | tup xs => cases ho
  | slv e xs => simp only [R] at h; obtain ⟨a, c, rfl, _⟩ := h; rfl
  | ref y off => simp only [R] at h; obtain ⟨b, o, u, rfl, _⟩ := h; rfl
  | ifc t y => simp only [R] at h; obtain ⟨u, rfl, _⟩ := h; rfl
  | fn f xs ys => simp only [R] at h; obtain ⟨as, bs, rfl, _⟩ := h; rfl
theorem RL_one' {A : Nat → Prop} {w : World} : ∀ {xs : List AV} {vs : List Value}, RL A w xs vs → xs.all AV.one = true → ∀ v ∈ vs, v.oneCell' = true
  | [], vs, h, _, v, hv => by simp only [RL] at h; subst h; cases hv
  | x :: xs, vs, h, ho, v, hv => by
    simp only [RL] at h
    obtain ⟨u, r, rfl, h1, h2⟩ := h
    simp only [List.all_cons, Bool.and_eq_true] at ho
    rcases List.mem_cons.1 hv with rfl | hv
    · exact R_one h1 ho.1
    · exact RL_one' h2 ho.2 v hv

def repA (C : List AV) (j : Nat) (vs : List AV) : List AV := C.take j ++ vs ++ C.drop (j + vs.length)
theorem RL_rep {A : Nat → Prop} {w : World} {C : List AV} {D : List Value} {j : Nat} {xs : List AV} {vs : List Value} (h : RL A w C D) (k : RL A w xs vs) : RL A w (repA C j xs) (rep D j vs) := by
  unfold repA rep
  have := k.length
  rw [this]
  exact RL_append (RL_append (RL_take j h) k) (RL_drop _ h)

theorem rep_append {C D : List Value} {j : Nat} {vs : List Value} (h : j + vs.length ≤ C.length) : rep (C ++ D) j vs = rep C j vs ++ D := by
  unfold rep
  rw [List.take_append_of_le_length (by omega), List.drop_append_of_le_length (by omega)]
  simp

theorem om_store_own {t tb : TypeId} {ag : Bool} {n m : Nat} {p x : Operand} {k off : Nat} {cs : List AV} {y : AV} (ht : tyOf P t = some (ag, n)) (hp : get L p = some (.sc (.pointer (some ⟨k, off, none⟩))))
    (ho : σ k = some (.cells tb m cs)) (hx : get L x = some y) (hn : y.cells.length = n) (hone : y.cells.all AV.one = true) (hle' : Nat.ble (off + n) cs.length = true)
    (hk : K (.sc undef) (σ.set k (.cells tb m (repA cs off y.cells)))) : OM P N ⟨d, .store t p x, ty, ps, af, g⟩ L σ K E := by
  have hle : off + n ≤ cs.length := Nat.le_of_ble_eq_true hle'
  refine om_skip fun A w a hg _ hop => ?_
  have h1 := R_sc (hop p (by simp [Op.operands]) _ hp)
  have h2 := hop x (by simp [Op.operands]) _ hx
  obtain ⟨C, D, hb, hlen, hr, _⟩ := hg.mem ho
  have hrc := R_cells h2
  have hlv := hrc.length
  have hlC := hr.length
  have hlt := (Array.getElem?_eq_some_iff.1 hb).1
  have hst := run_storeCells (P := P) (k := k) (t := tb) (a.eval x).cells.toList w (C ++ D) off 0 hb (by simp at hlv ⊢; omega) (RL_one' hrc hone)
  rw [Nat.add_zero, rep_append (by simp at hlv ⊢; omega)] at hst
  refine ⟨A, setBlk w k (.cells (rep C off (a.eval x).cells.toList ++ D).toArray tb (0, 0)), _, ?_, ext_set _ (hg.away k _ ho rfl), good_set hg ho rfl ?_, hk⟩
  · have hsz : (a.eval x).cells.size = n := by simp at hlv; omega
    simp only [execOp, h1, Instr.storeAt, Instr.sureAddr, storeVar, Sem.run_bind, Sem.run_pure, Result.andThen_ok, run_sizeOf ht, hsz]
    simp only [ne_eq, not_true_eq_false, if_false, Result.andThen_ok, hst]
  · refine ⟨rep C off (a.eval x).cells.toList, D, ?_, ?_, ?_⟩
    · rw [setBlk_same w _ hlt]
    · simp only [List.length_append] at hlen ⊢
      rw [rep_length (by simp at hlv ⊢; omega)]
      exact hlen
    · exact (RL_rep hr hrc).ext (ext_set _ (hg.away k _ ho rfl))

theorem RO_cells {A : Nat → Prop} {w : World} {k : Nat} {t : TypeId} {cs : List AV} {C D : List Value} (h : w.heap[k]? = some (.cells (C ++ D).toArray t (0, 0))) (hr : RL A w cs C) : RO A w k (.cells t (C ++ D).length cs) := ⟨C, D, h, rfl, hr⟩
theorem RO_cells' {A : Nat → Prop} {w : World} {k : Nat} {t : TypeId} {cs : List AV} {C : Array Value} (h : w.heap[k]? = some (.cells C t (0, 0))) (hr : RL A w cs C.toList) : RO A w k (.cells t cs.length cs) :=
  ⟨C.toList, [], by simpa using h, by simpa using hr.length, hr⟩

/-! ### New variables -/
theorem om_box_own {t : TypeId} {x : Operand} {y : AV} (hx : get L x = some y) (hk : ∀ k, σ k = none → K (.sc (.pointer (some ⟨k, 0, none⟩))) (σ.set k (.cells t y.cells.length y.cells))) :
    OM P N ⟨d, .box t x, ty, ps, af, g⟩ L σ K E := by
  refine om_gen fun A w a hg _ ho => ?_
  have h1 := ho x (by simp [Op.operands]) _ hx
  have hrc := R_cells h1
  have he := ext_alloc hg (.cells (a.eval x).cells t)
  refine ⟨A, w.alloc (.cells (a.eval x).cells t), .pointer (some ⟨w.heap.size, 0, none⟩), _, _, rfl, he, good_alloc hg (RO_cells' (alloc_new _ _) (hrc.ext he)), R_sc_mk _, hk _ (hg.none (Nat.le_refl _))⟩

theorem om_box_imm {t : TypeId} {x : Operand} {y : AV} (hx : get L x = some y) (hk : K (.ref y 0) σ) : OM P N ⟨d, .box t x, ty, ps, af, g⟩ L σ K E := by
  refine om_gen fun A w a hg _ ho => ?_
  have h1 := ho x (by simp [Op.operands]) _ hx
  have he := ext_plus hg (.cells (a.eval x).cells t)
  refine ⟨plus A w.heap.size, w.alloc (.cells (a.eval x).cells t), .pointer (some ⟨w.heap.size, 0, none⟩), _, _, rfl, he, good_plus hg _, ?_, hk⟩
  simp only [R]
  refine ⟨w.heap.size, 0, a.eval x, by rw [Nat.add_zero], .inr rfl, h1.ext he, fun j v hv => ?_⟩
  rw [Nat.zero_add, World.cell?_alloc_new]
  simpa using hv

def zeroOf (P : Program) (t : TypeId) : Option Value := (P.info? t).bind (·.zero)
theorem run_zero {t : TypeId} {z : Value} (h : zeroOf P t = some z) (w : World) : (zeroValue t).run P w = .ok z w := by
  unfold zeroOf at h
  cases hi : P.info? t with
  | none => simp [hi] at h
  | some i =>
    simp only [hi, Option.bind_some] at h
    simp [zeroValue, typeInfo, hi, h]

theorem om_alloc {t : TypeId} {z : Value} (hz : zeroOf P t = some z) (hk : ∀ k, σ k = none → K (.sc (.pointer (some ⟨k, 0, none⟩))) (σ.set k (.cells t z.cells.size (z.cells.toList.map .sc)))) :
    OM P N ⟨d, .alloc t, ty, ps, af, g⟩ L σ K E := by
  refine om_gen fun A w a hg _ ho => ?_
  have he := ext_alloc hg (.cells z.cells t)
  have hk' : ∀ k, σ k = none → K (.sc (.pointer (some ⟨k, 0, none⟩))) (σ.set k (.cells t (z.cells.toList.map AV.sc).length (z.cells.toList.map .sc))) := by simpa using hk
  refine ⟨A, w.alloc (.cells z.cells t), .pointer (some ⟨w.heap.size, 0, none⟩), _, _, ?_, he, good_alloc hg (RO_cells' (alloc_new _ _) (RL_sc _)), R_sc_mk _, hk' _ (hg.none (Nat.le_refl _))⟩
  simp [execOp, Instr.alloc, run_zero hz, newVar, newRow]

end Go.Gw
