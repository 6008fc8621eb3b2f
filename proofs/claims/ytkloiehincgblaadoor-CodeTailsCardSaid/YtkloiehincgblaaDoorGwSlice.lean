/- Literals, slices that are made, parts of slices, appends, calls, what is told by value from now on. -/
import Derived.Test.YtkloiehincgblaaDoorGwNew
namespace Go.Gw
variable {P : Program} {N : Nat} {L : Slots} {σ : Store} {K : AV → Store → Prop} {E : List PanicEntry → Store → Prop}
variable {d : Option Tmp} {ty : TypeId} {ps : String} {af : Array Edge} {g : Option (Nat × Bool)}

/-! ### Literals -/
def fillA (pl : Nat → Option (Nat × Nat)) : List AV → List (Nat × AV) → Option (List AV)
  | cs, [] => some cs
  | cs, (i, y) :: r => match pl i with
    | none => none
    | some (off, size) => cond (Nat.beq y.cells.length size && Nat.ble (off + size) cs.length) (fillA pl (repA cs off y.cells) r) none

theorem foldl_rep : ∀ (vs : List Value) (off j : Nat) (C : Array Value), off + j + vs.length ≤ C.size →
    ((vs.zipIdx j).foldl (fun cs (p : Value × Nat) => cs.setIfInBounds (off + p.2) p.1) C).toList = rep C.toList (off + j) vs
  | [], off, j, C, _ => by simp [rep]
  | v :: vs, off, j, C, h => by
    simp only [List.zipIdx_cons, List.foldl_cons]
    have hj : off + j < C.size := by simp at h; omega
    rw [foldl_rep vs off (j + 1) _ (by simp at h ⊢; omega)]
    have := rep_cons (C := C.toList) (j := off + j) (v := v) (vs := vs) (by simpa using h)
    rw [← this, Nat.add_assoc]
    simp

def RPs (A : Nat → Prop) (w : World) : List (Nat × AV) → List (Nat × Value) → Prop
  | [], qs => qs = []
  | p :: ps, qs => ∃ v r, qs = (p.1, v) :: r ∧ R A w p.2 v ∧ RPs A w ps r

theorem fill_rel {A : Nat → Prop} {w : World} (pl : Nat → Option (Nat × Nat)) : ∀ (ps : List (Nat × AV)) (qs : List (Nat × Value)) (xs ys : List AV) (C : Array Value),
    RL A w xs C.toList → RPs A w ps qs → fillA pl xs ps = some ys → ∃ D, Instr.fill pl C qs = some D ∧ RL A w ys D.toList
  | [], _, xs, ys, C, h, hf, he => by
    simp only [RPs] at hf
    subst hf
    simp only [fillA, Option.some.injEq] at he
    subst he
    exact ⟨C, rfl, h⟩
  | (i, y) :: ps, _, xs, ys, C, h, hf, he => by
      simp only [RPs] at hf
      obtain ⟨v, qs, rfl, h2, hf⟩ := hf
      simp only [fillA] at he
      cases hp : pl i with
      | none => simp [hp] at he
      | some q =>
        obtain ⟨off, size⟩ := q
        simp only [hp] at he
        cases hb : (Nat.beq y.cells.length size && Nat.ble (off + size) xs.length) with
        | false => simp [hb] at he
        | true =>
          simp only [hb, cond_true] at he
          simp only [Bool.and_eq_true] at hb
          have e1 := Nat.eq_of_beq_eq_true hb.1
          have e2 := Nat.le_of_ble_eq_true hb.2
          have hc := R_cells h2
          have hl1 := hc.length
          have hl2 := h.length
          simp only [Array.length_toList] at hl1 hl2
          have hfold : (v.cells.zipIdx.foldl (fun cs (p : Value × Nat) => cs.setIfInBounds (off + p.2) p.1) C).toList = rep C.toList off v.cells.toList := by
            rw [← Array.foldl_toList, Array.toList_zipIdx]
            exact foldl_rep _ _ _ _ (by simp; omega)
          obtain ⟨D, h3, h4⟩ := fill_rel pl ps qs (repA xs off y.cells) ys (v.cells.zipIdx.foldl (fun cs (p : Value × Nat) => cs.setIfInBounds (off + p.2) p.1) C)
            (by rw [hfold]; exact RL_rep h hc) hf he
          refine ⟨D, ?_, h4⟩
          unfold Instr.fill
          simp only [hp]
          rw [if_neg (by simp; omega)]
          exact h3

def getParts (L : Slots) : List (Nat × Operand) → Option (List (Nat × AV))
  | [] => some []
  | (i, x) :: r => match get L x, getParts L r with
    | some y, some ys => some ((i, y) :: ys)
    | _, _ => none

theorem getParts_rel {A : Nat → Prop} {w : World} {a : Act} : ∀ {ps : List (Nat × Operand)} {ys : List (Nat × AV)}, (∀ x ∈ ps.map (·.2), ∀ y, get L x = some y → R A w y (a.eval x)) → getParts L ps = some ys →
    RPs A w ys (ps.map fun (i, x) => (i, a.eval x))
  | [], ys, _, h => by simp only [getParts, Option.some.injEq] at h; subst h; simp [RPs]
  | (i, x) :: r, ys, ho, h => by
    simp only [getParts] at h
    split at h
    · rename_i y zs h1 h2
      cases h
      simp only [List.map_cons, RPs]
      exact ⟨_, _, rfl, ho x (by simp) y h1, getParts_rel (fun x hx => ho x (by rw [List.map_cons]; exact List.mem_cons_of_mem _ hx)) h2⟩
    · cases h

/-- Where a struct's fields lie. -/
def plOf (P : Program) (t : TypeId) : Option (List (Nat × Nat)) := match P.underlying t with
  | some (.struct fs) => fs.toList.mapM fun f => (P.info? f.type).map fun i => (f.offset, i.size)
  | _ => none

theorem run_places : ∀ (fs : List Field) (pl : List (Nat × Nat)), fs.mapM (fun f => (P.info? f.type).map fun i => (f.offset, i.size)) = some pl → ∀ w : World,
    (fs.mapM fun f => do pure (f.offset, ← sizeOf f.type) : Sem (List (Nat × Nat))).run P w = .ok pl w
  | [], pl, h, w => by simp at h; subst h; simp
  | f :: fs, pl, h, w => by
    rw [List.mapM_cons] at h
    cases hi : P.info? f.type with
    | none => simp [hi] at h
    | some i =>
      cases hm : fs.mapM (fun f => (P.info? f.type).map fun i => (f.offset, i.size)) with
      | none => simp [hi, hm] at h
      | some r =>
        simp [hi, hm] at h
        subst h
        have ih := run_places fs r hm w
        simp [List.mapM_cons, sizeOf, typeInfo, hi] at ih ⊢
        simp [ih]

theorem om_build {t : TypeId} {z : Value} {pl : List (Nat × Nat)} {parts : Array (Nat × Operand)} {ps' : List (Nat × AV)} {ys : List AV} (hp : plOf P t = some pl) (hz : zeroOf P t = some z) (hg : getParts L parts.toList = some ps')
    (hf : fillA (pl[·]?) (z.cells.toList.map .sc) ps' = some ys) (hk : K (.agg ys) σ) : OM P N ⟨d, .build t parts, ty, ps, af, g⟩ L σ K E :=
  om_val _ (fun A w a _ ho => by
    have hrel := getParts_rel (a := a) (A := A) (w := w) (fun x hx => ho x (by simpa [Op.operands] using hx)) hg
    obtain ⟨D, h1, h2⟩ := fill_rel (pl[·]?) _ _ _ _ z.cells (RL_sc _) hrel hf
    refine ⟨.agg D, ?_, by simp only [R]; exact ⟨D.toList, by simp, h2⟩⟩
    unfold plOf at hp
    split at hp
    · rename_i fs hu
      have hpl := run_places fs.toList pl hp w
      have hm : (fs.mapM fun f => do pure (f.offset, ← sizeOf f.type) : Sem (Array (Nat × Nat))).run P w = .ok pl.toArray w := by
        rw [Array.mapM_eq_mapM_toList, Sem.run_map, hpl]; rfl
      have hparts : (parts.map fun (p : Nat × Operand) => (p.1, a.eval p.2)).toList = parts.toList.map fun (p : Nat × Operand) => (p.1, a.eval p.2) := by simp
      have hh : Instr.fill (pl.toArray[·]?) z.cells (parts.map fun (p : Nat × Operand) => (p.1, a.eval p.2)).toList = some D := by
        rw [hparts]
        have : (fun i : Nat => pl.toArray[i]?) = fun i : Nat => pl[i]? := by funext i; simp
        rw [this]
        exact h1
      simp only [execOp, Instr.build, Sem.run_bind, run_zero hz, Result.andThen_ok, underlying, run_program, hu, Sem.run_pure]
      simp only [hm, Result.andThen_ok]
      simp only [hh, Sem.run_pure, Result.andThen_ok]
    · cases hp) hk

theorem R_of_cells {A : Nat → Prop} {w : World} {x : AV} {vs : List Value} (h : RL A w x.cells vs) : ∃ v, R A w x v ∧ v.cells.toList = vs := by
  have one : ∀ (y : AV), RL A w [y] vs → (∀ v, R A w y v → v.cells = #[v]) → ∃ v, R A w y v ∧ v.cells.toList = vs := by
    intro y hy hc
    simp only [RL] at hy
    obtain ⟨v, r, rfl, h1, rfl⟩ := hy
    exact ⟨v, h1, by rw [hc v h1]⟩
  cases x with
  | sc u =>
    cases u <;> first
      | exact one _ h (fun v hv => by rw [R_sc hv]; rfl)
      | skip
    rename_i cs
    refine ⟨.agg cs, R_sc_mk _, ?_⟩
    have : ∀ (cs : List Value) (vs : List Value), RL A w (cs.map .sc) vs → cs = vs := by
      intro cs
      induction cs with
      | nil => intro vs h; simp only [List.map_nil, RL] at h; exact h.symm
      | cons c cs ih =>
        intro vs h
        simp only [List.map_cons, RL] at h
        obtain ⟨v, r, rfl, h1, h2⟩ := h
        rw [R_sc h1, ih r h2]
    exact this _ _ h
  | agg xs => exact ⟨.agg vs.toArray, by simp only [R]; exact ⟨vs, rfl, h⟩, by simp [Value.cells]⟩
  | tup xs => exact one _ h (fun v hv => by simp only [R] at hv; obtain ⟨cs, rfl, _⟩ := hv; rfl)
  | slv e xs => exact one _ h (fun v hv => by simp only [R] at hv; obtain ⟨a, c, rfl, _⟩ := hv; rfl)
  | ref y off => exact one _ h (fun v hv => by simp only [R] at hv; obtain ⟨b, o, u, rfl, _⟩ := hv; rfl)
  | ifc t y => exact one _ h (fun v hv => by simp only [R] at hv; obtain ⟨u, rfl, _⟩ := hv; rfl)
  | fn f xs ys => exact one _ h (fun v hv => by simp only [R] at hv; obtain ⟨as, bs, rfl, _⟩ := hv; rfl)

/-- The cells of elements, one behind the other. -/
def flat : List AV → List AV
  | [] => []
  | x :: xs => x.cells ++ flat xs
def widths (e : Nat) : List AV → Bool
  | [] => true
  | x :: xs => Nat.beq x.cells.length e && widths e xs

theorem flat_append : ∀ (xs ys : List AV), flat (xs ++ ys) = flat xs ++ flat ys
  | [], ys => rfl
  | x :: xs, ys => by simp [flat, flat_append xs ys]
theorem widths_append (e : Nat) : ∀ (xs ys : List AV), widths e (xs ++ ys) = (widths e xs && widths e ys)
  | [], ys => rfl
  | x :: xs, ys => by simp [widths, widths_append e xs ys, Bool.and_assoc]
theorem flat_length {e : Nat} : ∀ {xs : List AV}, widths e xs = true → (flat xs).length = xs.length * e
  | [], _ => by simp [flat]
  | x :: xs, h => by
    simp only [widths, Bool.and_eq_true] at h
    simp only [flat, List.length_append, List.length_cons, flat_length h.2, Nat.eq_of_beq_eq_true h.1, Nat.add_mul]
    omega

theorem RL_split {A : Nat → Prop} {w : World} {xs ys : List AV} {vs : List Value} (h : RL A w (xs ++ ys) vs) : RL A w xs (vs.take xs.length) ∧ RL A w ys (vs.drop xs.length) := by
  have h1 := RL_take xs.length h
  have h2 := RL_drop xs.length h
  rw [List.take_left] at h1
  rw [List.drop_left] at h2
  exact ⟨h1, h2⟩

theorem RE_mk {A : Nat → Prop} {w : World} {e b : Nat} : ∀ (xs : List AV) (o : Nat) (C : List Value), widths e xs = true → RL A w (flat xs) C → Mem w b o C → RE A w e xs b o
  | [], o, C, _, _, _ => by simp only [RE]
  | x :: xs, o, C, hw, hr, hm => by
    simp only [widths, Bool.and_eq_true] at hw
    have hxl := Nat.eq_of_beq_eq_true hw.1
    obtain ⟨h1, h2⟩ := RL_split (show RL A w (x.cells ++ flat xs) C from hr)
    obtain ⟨v, h3, h4⟩ := R_of_cells h1
    have hlen := hr.length
    simp only [flat, List.length_append] at hlen
    simp only [RE]
    refine ⟨⟨v, h3, ?_, ?_⟩, RE_mk xs (o + e) (C.drop x.cells.length) hw.2 h2 ?_⟩
    · have := congrArg List.length h4
      simp at this
      omega
    · rw [h4]
      intro j u hu
      rw [List.getElem?_take] at hu
      split at hu
      · exact hm j u hu
      · cases hu
    · intro j u hu
      rw [List.getElem?_drop, hxl] at hu
      have := hm (e + j) u hu
      rwa [← Nat.add_assoc] at this

def zerosOf (z : Value) (n : Nat) : List AV := (List.range n).map fun i => .sc z.cells[i % z.cells.size]!

theorem run_buildSlice {A : Nat → Prop} {w : World} {a : Act} {t el : TypeId} {e len : Nat} {z : Value} {parts : Array (Nat × Operand)} {ps' : List (Nat × AV)} {ys : List AV} (he : elmOf P t = some (el, e)) (hz : zeroOf P el = some z)
    (ho : ∀ x ∈ parts.toList.map (·.2), ∀ y, get L x = some y → R A w y (a.eval x)) (hg : getParts L parts.toList = some ps') (hle : len * e ≤ 2 ^ 24)
    (hf : fillA (fun i => some (i * e, e)) (zerosOf z (len * e)) ps' = some ys) :
    ∃ D : Array Value, (execOp a.eval ⟨d, .buildSlice t len parts, ty, ps, af, g⟩).run P w = .ok (.value (.slice (some ⟨w.heap.size, 0, none⟩) len len)) (w.alloc (.cells D el)) ∧ RL A w ys D.toList := by
  obtain ⟨hu, hs⟩ := elmOf_und he
  have hrel := getParts_rel (a := a) (A := A) (w := w) ho hg
  obtain ⟨D, h1, h2⟩ := fill_rel (A := A) (w := w) (fun i => some (i * e, e)) _ _ (zerosOf z (len * e)) ys ((Array.range (len * e)).map (z.cells[· % z.cells.size]!)) (by
    have : zerosOf z (len * e) = ((List.range (len * e)).map fun i => z.cells[i % z.cells.size]!).map .sc := by simp [zerosOf]
    rw [this]
    have h2 : ((Array.range (len * e)).map (z.cells[· % z.cells.size]!)).toList = (List.range (len * e)).map fun i => z.cells[i % z.cells.size]! := by simp
    rw [h2]
    exact RL_sc _) hrel hf
  refine ⟨D, ?_, h2⟩
  have hparts : (parts.map fun (p : Nat × Operand) => (p.1, a.eval p.2)).toList = parts.toList.map fun (p : Nat × Operand) => (p.1, a.eval p.2) := by simp
  simp only [execOp, Instr.buildSlice, Sem.run_bind, underlying, run_program, Result.andThen_ok, hu, Sem.run_pure, hs]
  rw [if_neg (by omega)]
  by_cases h0 : len * e = 0
  · have hD : Instr.fill (fun i => some (i * e, e)) ((Array.range (len * e)).map ((#[] : Array Value)[· % (#[] : Array Value).size]!)) (parts.map fun (p : Nat × Operand) => (p.1, a.eval p.2)).toList = some D := by
      rw [hparts]
      rw [h0] at h1 ⊢
      have e0 : ∀ f : Nat → Value, (Array.range 0).map f = #[] := fun f => by simp
      rw [e0] at h1 ⊢
      exact h1
    rw [if_pos h0]
    simp only [Sem.run_pure, Result.andThen_ok, hD, Sem.run_bind, newRow, run_newObj]
    rfl
  · rw [if_neg h0]
    simp only [Sem.run_bind, run_zero hz, Sem.run_pure, Result.andThen_ok, hparts, h1, newRow, run_newObj]
    rfl

theorem om_buildSlice_imm {t el : TypeId} {e len : Nat} {z : Value} {parts : Array (Nat × Operand)} {ps' : List (Nat × AV)} (xs : List AV) (he : elmOf P t = some (el, e)) (hz : zeroOf P el = some z) (hg : getParts L parts.toList = some ps')
    (hf : fillA (fun i => some (i * e, e)) (zerosOf z (len * e)) ps' = some (flat xs)) (hle : Nat.ble (len * e) 16777216 = true) (hle2 : Nat.ble len 16777216 = true) (hw : widths e xs = true) (hl : xs.length = len) (hk : K (.slv e xs) σ) :
    OM P N ⟨d, .buildSlice t len parts, ty, ps, af, g⟩ L σ K E := by
  refine om_gen fun A w a hgood _ ho => ?_
  have hle' := Nat.le_of_ble_eq_true hle
  obtain ⟨D, h1, h2⟩ := run_buildSlice (d := d) (ty := ty) (ps := ps) (af := af) (g := g) he hz (fun x hx => ho x (by simpa [Op.operands] using hx)) hg (by omega) hf
  have hext := ext_plus hgood (.cells D el)
  refine ⟨_, _, _, _, _, h1, hext, good_plus hgood _, ?_, hk⟩
  simp only [R]
  refine ⟨some ⟨w.heap.size, 0, none⟩, len, by rw [hl], by omega, ?_, ?_⟩
  · unfold maxC
    have := Nat.le_of_ble_eq_true hle2
    omega
  · refine .inr ⟨_, _, rfl, .inr rfl, RE_mk xs 0 D.toList hw (h2.ext hext) (fun j v hv => ?_)⟩
    rw [Nat.zero_add, World.cell?_alloc_new]
    simpa using hv


theorem om_buildSlice_own {t el : TypeId} {e len : Nat} {z : Value} {parts : Array (Nat × Operand)} {ps' : List (Nat × AV)} {cs : List AV} (he : elmOf P t = some (el, e)) (hz : zeroOf P el = some z) (hg : getParts L parts.toList = some ps')
    (hf : fillA (fun i => some (i * e, e)) (zerosOf z (len * e)) ps' = some cs) (hle : Nat.ble (len * e) 16777216 = true)
    (hk : ∀ k, σ k = none → K (.sc (.slice (some ⟨k, 0, none⟩) len len)) (σ.set k (.cells el cs.length cs))) : OM P N ⟨d, .buildSlice t len parts, ty, ps, af, g⟩ L σ K E := by
  refine om_gen fun A w a hgood _ ho => ?_
  have hle' := Nat.le_of_ble_eq_true hle
  obtain ⟨D, h1, h2⟩ := run_buildSlice (d := d) (ty := ty) (ps := ps) (af := af) (g := g) he hz (fun x hx => ho x (by simpa [Op.operands] using hx)) hg (by omega) hf
  have hext := ext_alloc hgood (.cells D el)
  exact ⟨A, _, _, _, _, h1, hext, good_alloc hgood (RO_cells' (alloc_new _ _) (h2.ext hext)), R_sc_mk _, hk _ (hgood.none (Nat.le_refl _))⟩

theorem om_makeSlice {t el : TypeId} {e : Nat} {z : Value} {x y : Operand} {k k' : IntKind} {n c : Nat} {i : TypeInfo} (he : elmOf P t = some (el, e)) (hi : P.info? el = some i) (hz : zeroOf P el = some z) (hx : get L x = some (.sc (.int k n))) (hy : get L y = some (.sc (.int k' c)))
    (hnc : n ≤ c) (hb : c * i.bytes ≤ 281474976710656) (hc : c ≤ 281474976710656)
    (hk : ∀ q, σ q = none → K (.sc (.slice (some ⟨q, 0, none⟩) n c)) (σ.set q (.cells el (c * e) (zerosOf z (n * e))))) : OM P N ⟨d, .makeSlice t x y, ty, ps, af, g⟩ L σ K E := by
  refine om_gen fun A w a hgood _ ho => ?_
  obtain ⟨hu, hs⟩ := elmOf_und he
  have e1 := R_sc (ho x (by simp [Op.operands]) _ hx)
  have e2 := R_sc (ho y (by simp [Op.operands]) _ hy)
  have w1 : ∀ m : Nat, m ≤ 281474976710656 → IntKind.i64.wrap (m : Int) = m := by
    intro m hm
    rw [IntKind.wrap_i64]
    omega
  let D : Array Value := (Array.range (c * e)).map (z.cells[· % z.cells.size]!)
  have hrun : (execOp a.eval ⟨d, .makeSlice t x y, ty, ps, af, g⟩).run P w = .ok (.value (.slice (some ⟨w.heap.size, 0, none⟩) n c)) (w.alloc (.cells D el)) := by
    have wn := w1 n (by omega)
    have wc := w1 c hc
    have hbig : ¬ (281474976710656 < (i.bytes : Int) * (c : Int)) := by
      rw [← Int.natCast_mul, Nat.mul_comm]
      omega
    have hneg : ¬ ((n : Int) < 0) := by omega
    have hneg' : ¬ ((c : Int) < 0) := by omega
    have hlt : ¬ (c < n) := by omega
    simp only [execOp, e1, e2, Instr.makeSlice, Sem.run_bind, underlying, run_program, Result.andThen_ok, hu, Sem.run_pure, asInt, asIntOf, typeInfo, hi, wn, wc]
    simp [hneg, hneg', hlt, hbig, hs]
    by_cases hce : c * e = 0
    · have hD : D = #[] := by simp only [D, hce]; simp
      have e0 : ∀ f : Nat → Value, (Array.range 0).map f = #[] := fun f => by simp
      simp [hce, newRow, hD, e0]
    · rw [if_neg hce]
      simp [run_zero hz, newRow, D]
  have hext := ext_alloc hgood (.cells D el)
  have hsplit : ((List.range (n * e)).map fun i => z.cells[i % z.cells.size]!) ++ ((List.range' (n * e) (c * e - n * e)).map (fun i => z.cells[i % z.cells.size]!)) = D.toList := by
    have hle : n * e ≤ c * e := Nat.mul_le_mul_right _ hnc
    simp only [D, Array.toList_map, Array.toList_range]
    rw [← List.map_append, List.range_eq_range', List.range_eq_range']
    congr 1
    have := List.range'_append_1 (s := 0) (m := n * e) (n := c * e - n * e)
    rw [Nat.zero_add] at this
    rw [this]
    congr 1
    omega
  refine ⟨A, _, _, _, _, hrun, hext, good_alloc hgood (o' := .cells el (c * e) (zerosOf z (n * e))) ⟨((List.range (n * e)).map fun i => z.cells[i % z.cells.size]!), (List.range' (n * e) (c * e - n * e)).map (fun i => z.cells[i % z.cells.size]!), ?_, ?_, ?_⟩, R_sc_mk _, hk _ (hgood.none (Nat.le_refl _))⟩
  · rw [alloc_new, hsplit]
  · rw [hsplit]; simp [D]
  · have : zerosOf z (n * e) = ((List.range (n * e)).map fun i => z.cells[i % z.cells.size]!).map .sc := by simp [zerosOf]
    rw [this]
    exact RL_sc _

end Go.Gw
