/- Parts of slices, appends, calls, what is told by value from now on. -/
import Derived.Test.YtkloiehincgblaaDoorGwSlice
import Derived.Laws.Append
namespace Go.Gw
variable {P : Program} {N : Nat} {L : Slots} {σ : Store} {K : AV → Store → Prop} {E : List PanicEntry → Store → Prop}
variable {d : Option Tmp} {ty : TypeId} {ps : String} {af : Array Edge} {g : Option (Nat × Bool)}

theorem run_bounds {a : Act} {lo hi : Option Operand} {n c : Nat} {l h : Int} (hl : getB L 0 lo = some l) (hh : getB L n hi = some h) (hop : ∀ o ∈ lo.toList ++ hi.toList, ∀ k m, get L o = some (.sc (.int k m)) → a.eval o = .int k m)
    (h0 : 0 ≤ l) (h1 : l ≤ h) (h2 : h ≤ c) (w : World) :
    (Instr.sliceBounds true n c (lo.map a.eval) (hi.map a.eval) none).run P w = .ok (l.toNat, h.toNat, c) w := by
  have hH : ∀ v, hi.map a.eval = some v → (Instr.sliceBound v c .sliceAcap).run P w = .ok h.toNat w := by
    intro v hv
    cases hi with
    | none => cases hv
    | some o =>
      cases hv
      obtain ⟨k, hk'⟩ := getB_some hh
      rw [hop o (by simp) _ _ hk']
      exact run_sliceBound _ (by omega) h2 w
  have hL : ∀ v, lo.map a.eval = some v → (Instr.sliceBound v h.toNat .sliceB).run P w = .ok l.toNat w := by
    intro v hv
    cases lo with
    | none => cases hv
    | some o =>
      cases hv
      obtain ⟨k, hk'⟩ := getB_some hl
      rw [hop o (by simp) _ _ hk']
      exact run_sliceBound _ h0 (by omega) w
  unfold Instr.sliceBounds
  cases hi with
  | none =>
    simp only [getB, Option.some.injEq] at hh
    subst hh
    cases lo with
    | none => simp only [getB, Option.some.injEq] at hl; subst hl; simp
    | some o => have := hL _ rfl; simp at this ⊢; simp [this]
  | some p =>
    have hp := hH _ rfl
    cases lo with
    | none => simp only [getB, Option.some.injEq] at hl; subst hl; simp [hp]
    | some o => have := hL _ rfl; simp [hp, this]

theorem om_slice_slv {t el : TypeId} {e : Nat} {x : Operand} {lo hi : Option Operand} {xs : List AV} {l h : Int} (he : elmOf P t = some (el, e)) (hx : get L x = some (.slv e xs))
    (hl : getB L 0 lo = some l) (hh : getB L xs.length hi = some h) (h0 : 0 ≤ l) (h1 : l ≤ h) (h2 : h ≤ xs.length) (hk : K (.slv e ((xs.drop l.toNat).take (h.toNat - l.toNat))) σ) :
    OM P N ⟨d, .slice t x lo hi none, ty, ps, af, g⟩ L σ K E :=
  om_val _ (fun A w a _ ho => by
    obtain ⟨hu, hs⟩ := elmOf_und he
    have e1 := ho x (by simp [Op.operands]) _ hx
    simp only [R] at e1
    obtain ⟨p, c, e1, hc1, hc2, hre⟩ := e1
    have hb := run_bounds (P := P) (a := a) (n := xs.length) (c := c) hl hh (fun o hmem k m hk' => R_sc (ho o (by simp [Op.operands] at hmem ⊢; rcases hmem with hm | hm <;> simp [hm]) _ hk')) h0 h1 (by omega) w
    refine ⟨.slice (if c = l.toNat then p else p.map (·.add (l.toNat * e))) (h.toNat - l.toNat) (c - l.toNat), ?_, ?_⟩
    · simp only [execOp, e1, Instr.sliceAt, Sem.run_bind]
      simp [underlying, hu, Instr.slice, hb, hs]
    · simp only [R]
      have hlen : ((xs.drop l.toNat).take (h.toNat - l.toNat)).length = h.toNat - l.toNat := by simp; omega
      refine ⟨_, _, by rw [hlen], by rw [hlen]; omega, by omega, ?_⟩
      by_cases hne : h.toNat - l.toNat = 0
      · exact .inl (List.eq_nil_of_length_eq_zero (by rw [hlen]; exact hne))
      · rw [if_neg (by omega)]
        rcases hre with rfl | ⟨b, o, rfl, hb', hre⟩
        · simp at h2; omega
        · exact .inr ⟨b, o + l.toNat * e, by simp [add_none], hb', RE_take _ (RE_drop _ hre)⟩) hk

theorem om_slice_own {t el : TypeId} {e : Nat} {x : Operand} {lo hi : Option Operand} {p : Option Addr} {n c : Nat} {l h : Int} (he : elmOf P t = some (el, e)) (hx : get L x = some (.sc (.slice p n c)))
    (hl : getB L 0 lo = some l) (hh : getB L n hi = some h) (h0 : 0 ≤ l) (h1 : l ≤ h) (h2 : h ≤ c) (hk : K (.sc (.slice (if c = l.toNat then p else p.map (·.add (l.toNat * e))) (h.toNat - l.toNat) (c - l.toNat))) σ) :
    OM P N ⟨d, .slice t x lo hi none, ty, ps, af, g⟩ L σ K E :=
  om_val _ (fun A w a _ ho => by
    obtain ⟨hu, hs⟩ := elmOf_und he
    have e1 := R_sc (ho x (by simp [Op.operands]) _ hx)
    have hb := run_bounds (P := P) (a := a) (n := n) (c := c) hl hh (fun o hmem k m hk' => R_sc (ho o (by simp [Op.operands] at hmem ⊢; rcases hmem with hm | hm <;> simp [hm]) _ hk')) h0 h1 (by omega) w
    refine ⟨_, ?_, R_sc_mk _⟩
    simp only [execOp, e1, Instr.sliceAt, Sem.run_bind]
    simp [underlying, hu, Instr.slice, hb, hs]) hk

/-! ### Appends -/
/-- What is appended: so many elements, these cells. -/
def Src (P : Program) (σ : Store) (e : Nat) (y : AV) (n : Nat) (cs : List AV) : Prop :=
  ∀ (A : Nat → Prop) (w : World) (v : Value), Good A w σ → R A w y v → ∃ vs : List Value, RL A w cs vs ∧ vs.length = n * e ∧ (∀ w', (Builtin.lenOf v).run P w' = .ok n w') ∧
    ∀ w', w'.heap = w.heap → (Builtin.firstCells e n v).run P w' = .ok vs.toArray w'

theorem src_nil (e c : Nat) : Src P σ e (.sc (.slice none 0 c)) 0 [] := by
  intro A w v _ hr
  rw [R_sc hr]
  exact ⟨[], by simp only [RL], by simp, fun w' => rfl, fun w' _ => rfl⟩

theorem cell_heap {w w' : World} (h : w'.heap = w.heap) (a : Addr) : w'.cell? a = w.cell? a := by unfold World.cell?; rw [h]

theorem RE_cells {A : Nat → Prop} {w : World} {e b : Nat} : ∀ (xs : List AV) (o : Nat), RE A w e xs b o → ∃ vs : List Value, RL A w (flat xs) vs ∧ vs.length = xs.length * e ∧ Mem w b o vs
  | [], o, _ => ⟨[], by simp only [flat, RL], by simp, fun j v hv => by simp at hv⟩
  | x :: xs, o, h => by
    simp only [RE] at h
    obtain ⟨⟨v, h1, h2, h3⟩, h4⟩ := h
    obtain ⟨vs, h5, h6, h7⟩ := RE_cells xs (o + e) h4
    refine ⟨v.cells.toList ++ vs, RL_append (R_cells h1) h5, ?_, fun j u hu => ?_⟩
    · simp [h2, h6, Nat.add_mul]; omega
    · by_cases hj : j < v.cells.toList.length
      · rw [List.getElem?_append_left hj] at hu; exact h3 j u hu
      · rw [List.getElem?_append_right (by omega)] at hu
        have := h7 _ u hu
        simp only [Array.length_toList, h2] at this hj
        rw [show o + e + (j - e) = o + j by omega] at this
        exact this

theorem src_slv (e : Nat) (xs : List AV) : Src P σ e (.slv e xs) xs.length (flat xs) := by
  intro A w v _ hr
  simp only [R] at hr
  obtain ⟨p, c, rfl, _, _, h⟩ := hr
  rcases h with rfl | ⟨b, o, rfl, _, h⟩
  · refine ⟨[], by simp only [flat, RL], by simp, fun w' => rfl, fun w' _ => ?_⟩
    cases p with
    | none => rfl
    | some a => simp [Builtin.firstCells, loadCells, loadCellsFrom]
  · obtain ⟨vs, h1, h2, h3⟩ := RE_cells xs o h
    refine ⟨vs, h1, h2, fun w' => rfl, fun w' hw => ?_⟩
    exact run_firstCells_some w' e xs.length ⟨b, o, none⟩ _ c vs h2 (fun j u hu => by rw [cell_heap hw, add_none]; exact h3 j u hu)

theorem src_own {e k t m n c : Nat} {cs : List AV} (ho : σ k = some (.cells t m cs)) (hl : cs.length = n * e) : Src P σ e (.sc (.slice (some ⟨k, 0, none⟩) n c)) n cs := by
  intro A w v hg hr
  rw [R_sc hr]
  obtain ⟨C, D, _, _, h3, h4⟩ := hg.mem ho
  refine ⟨C, h3, by rw [h3.length, hl], fun w' => rfl, fun w' hw => ?_⟩
  exact run_firstCells_some w' e n ⟨k, 0, none⟩ n c C (by rw [h3.length, hl]) (fun j u hu => by rw [cell_heap hw, add_none]; exact h4 j u hu)

theorem src_own_at {e k t m n c o : Nat} {cs : List AV} (ho : σ k = some (.cells t m cs)) (hl : o + n * e ≤ cs.length) : Src P σ e (.sc (.slice (some ⟨k, o, none⟩) n c)) n ((cs.drop o).take (n * e)) := by
  intro A w v hg hr
  rw [R_sc hr]
  obtain ⟨C, D, _, _, h3, h4⟩ := hg.mem ho
  have hlen := h3.length
  refine ⟨(C.drop o).take (n * e), RL_take _ (RL_drop _ h3), by simp; omega, fun w' => rfl, fun w' hw => ?_⟩
  refine run_firstCells_some w' e n ⟨k, o, none⟩ n c _ (by simp; omega) (fun j u hu => ?_)
  rw [cell_heap hw, add_none]
  rw [List.getElem?_take] at hu
  split at hu
  · rw [List.getElem?_drop] at hu
    have := h4 _ u hu
    rwa [Nat.zero_add] at this
  · cases hu

def strCells (s : ByteArray) : List AV := s.data.toList.map fun b => .sc (.int .u8 b.toNat)
theorem src_str (s : ByteArray) : Src P σ 1 (.sc (.string s)) s.size (strCells s) := by
  intro A w v _ hr
  rw [R_sc hr]
  refine ⟨s.data.toList.map fun b => .int .u8 b.toNat, ?_, ?_, fun w' => rfl, fun w' _ => ?_⟩
  · have : strCells s = (s.data.toList.map fun b => (.int .u8 b.toNat : Value)).map .sc := by simp [strCells]
    rw [this]; exact RL_sc _
  · simp
  · simp only [Builtin.firstCells, Sem.run_pure]
    congr 2
    apply Array.ext'
    simp

/-- The slice that is appended to: nil, or an owned one, all that it has. -/
inductive Dst (σ : Store) (el e : Nat) : AV → Nat → Nat → List AV → Prop where
  | nil : Dst σ el e (.sc (.slice none 0 0)) 0 0 []
  | own {k n c : Nat} {cs : List AV} (ho : σ k = some (.cells el (c * e) cs)) (hl : cs.length = n * e) (hc : n ≤ c) : Dst σ el e (.sc (.slice (some ⟨k, 0, none⟩) n c)) n c cs

/-- What has become of the owned blocks behind an append: the row that was there is the new one's, or gone. -/
def gone (σ : Store) : AV → Store
  | .sc (.slice (some a) _ _) => σ.drop a.block
  | _ => σ

theorem good_drop {A : Nat → Prop} {w : World} (hg : Good A w σ) (k : Nat) : Good A w (σ.drop k) := by
  refine ⟨hg.inb, fun j o hj hp => ?_, fun j o hj => ?_⟩
  all_goals
    simp only [Store.drop] at hj
    split at hj
    · cases hj
    · first | exact hg.away j o hj hp | exact hg.own j o hj

theorem good_gone {A : Nat → Prop} {w : World} (hg : Good A w σ) (x : AV) : Good A w (gone σ x) := by
  unfold gone
  split
  · exact good_drop hg _
  · exact hg

theorem good_drew {A : Nat → Prop} {w : World} (hg : Good A w σ) : Good A w.drew σ ∧ Ext A w A w.drew := by
  have he : Ext A w A w.drew := ⟨fun _ h => h, fun _ _ => rfl, Nat.le_refl _, rfl, rfl, rfl⟩
  exact ⟨⟨hg.inb, hg.away, fun k o hk => (hg.own k o hk).ext he rfl⟩, he⟩

section
variable {w : World} {t t2 el : TypeId} {e : Nat} {i : TypeInfo} {z v : Value} {m : Nat} {vs : List Value}

theorem run_append_in (he : elmOf P t = some (el, e)) (hq : (∃ q, P.underlying t2 = some (.slice q)) ∨ P.underlying t2 = some .string) (hlen : ∀ w', (Builtin.lenOf v).run P w' = .ok m w')
    (hfirst : ∀ w', w'.heap = w.heap → (Builtin.firstCells e m v).run P w' = .ok vs.toArray w') {k n c : Nat} {C : List Value} {tb : TypeId} (hb : w.heap[k]? = some (.cells C.toArray tb (0, 0))) (hle : n * e + vs.length ≤ C.length)
    (hone : ∀ u ∈ vs, u.oneCell' = true) (hroom : n + m ≤ c) :
    (Builtin.append_ #[t, t2] ty #[.slice (some ⟨k, 0, none⟩) n c, v]).run P w = .ok (.slice (some ⟨k, 0, none⟩) (n + m) c) (setBlk w k (.cells (rep C (n * e) vs).toArray tb (0, 0))) := by
  obtain ⟨hu, hsz⟩ := elmOf_und he
  have hst := run_storeCells (P := P) vs w C (n * e) 0 hb (by omega) hone
  rw [Nat.add_zero] at hst
  rcases hq with ⟨q, hq⟩ | hq
  · simp [Builtin.append_, underlying, hu, hq, hsz, hlen, hroom, hfirst w rfl, add_none, hst]
  · simp [Builtin.append_, underlying, hu, hq, hsz, hlen, hroom, hfirst w rfl, add_none, hst]

theorem run_append_none (he : elmOf P t = some (el, e)) (hq : (∃ q, P.underlying t2 = some (.slice q)) ∨ P.underlying t2 = some .string) (hlen : ∀ w', (Builtin.lenOf v).run P w' = .ok 0 w')
    (hfirst : ∀ w', w'.heap = w.heap → (Builtin.firstCells e 0 v).run P w' = .ok vs.toArray w') :
    (Builtin.append_ #[t, t2] ty #[.slice none 0 0, v]).run P w = .ok (.slice none 0 0) w := by
  obtain ⟨hu, hsz⟩ := elmOf_und he
  rcases hq with ⟨q, hq⟩ | hq
  · simp [Builtin.append_, underlying, hu, hq, hsz, hlen, hfirst w rfl]
  · simp [Builtin.append_, underlying, hu, hq, hsz, hlen, hfirst w rfl]

theorem run_append_out (he : elmOf P t = some (el, e)) (hi : P.info? el = some i) (hz : i.zero = some z) (hq : (∃ q, P.underlying t2 = some (.slice q)) ∨ P.underlying t2 = some .string) (hlen : ∀ w', (Builtin.lenOf v).run P w' = .ok m w')
    (hfirst : ∀ w', w'.heap = w.heap → (Builtin.firstCells e m v).run P w' = .ok vs.toArray w') {p : Option Addr} {n c : Nat} {us : List Value} (hold : (Builtin.firstCells e n (.slice p n c)).run P w.drew = .ok us.toArray w.drew)
    (hroom : c < n + m) (h47 : (n + m) * i.bytes ≤ 140737488355328) (h63 : n + m ≤ maxC) :
    (Builtin.append_ #[t, t2] ty #[.slice p n c, v]).run P w = .ok (.slice (some ⟨w.heap.size, 0, none⟩) (n + m) (grownCap w (n + m) c el))
      (w.drew.alloc (.cells (us.toArray ++ vs.toArray ++ Builtin.zeroCells z.cells (grownCap w (n + m) c el - (n + m))) el)) := by
  obtain ⟨hu, hsz⟩ := elmOf_und he
  have hn : ¬ (n + m ≤ c) := by omega
  have h48' : ¬ (281474976710656 < Builtin.nextslicecap (n + m) c * i.bytes) := by have := growslice_fits (bytes := i.bytes) hroom h47; omega
  have h63' : ¬ (9223372036854775807 < ((n : Int) + (m : Int))) := by unfold maxC at h63; omega
  have hf := hfirst w.drew rfl
  rcases hq with ⟨q, hq⟩ | hq
  · simp [Builtin.append_, underlying, hu, hq, hsz, hlen, hn, typeInfo, zeroValue, hi, hz, h48', h63', Question.forced, hf, hold, newRow, grownCap]
    congr 2
    apply Array.ext'
    simp [List.append_assoc]
  · simp [Builtin.append_, underlying, hu, hq, hsz, hlen, hn, typeInfo, zeroValue, hi, hz, h48', h63', Question.forced, hf, hold, newRow, grownCap]
    congr 2
    apply Array.ext'
    simp [List.append_assoc]
end

theorem rep_end {C D : List Value} {n : Nat} {vs : List Value} (h : C.length = n) : rep (C ++ D) n vs = C ++ vs ++ D.drop vs.length := by
  subst h
  unfold rep
  rw [List.take_left, ← List.drop_drop, List.drop_left]

theorem om_append {t t2 el : TypeId} {e : Nat} {i : TypeInfo} {z : Value} {x y : Operand} {u v : AV} {n c m : Nat} {cs ds : List AV} (he : elmOf P t = some (el, e)) (hi : P.info? el = some i) (hz : i.zero = some z) (hzs : z.cells.size = e)
    (hq : (∃ q, P.underlying t2 = some (.slice q)) ∨ P.underlying t2 = some .string)
    (hx : get L x = some u) (hy : get L y = some v) (hd : Dst σ el e u n c cs) (hs : Src P σ e v m ds) (hone : ∀ a ∈ ds, a.one = true) (h47 : (n + m) * i.bytes ≤ 140737488355328) (h63 : n + m ≤ maxC)
    (hnil : m = 0 → u = .sc (.slice none 0 0) → K u σ)
    (hk : ∀ k' c', gone σ u k' = none → n + m ≤ c' → (c' ≤ maxC ∨ c' = c) → (0 < m ∨ ∃ k, u = .sc (.slice (some ⟨k, 0, none⟩) n c)) → K (.sc (.slice (some ⟨k', 0, none⟩) (n + m) c')) ((gone σ u).set k' (.cells el (c' * e) (cs ++ ds)))) :
    OM P N ⟨d, .call ⟨.builtin .append, #[x, y], #[t, t2]⟩, ty, ps, af, g⟩ L σ K E := by
  refine om_gen fun A w a hg _ hop => ?_
  have e1 := hop x (by simp [Op.operands, Call.operands]) _ hx
  have e2 := hop y (by simp [Op.operands, Call.operands]) _ hy
  obtain ⟨vs, hrv, hlv, hlen, hfirst⟩ := hs A w _ hg e2
  have hstart : ∀ v' w', (Builtin.append_ #[t, t2] ty #[a.eval x, a.eval y]).run P w = .ok v' w' → (execOp a.eval ⟨d, .call ⟨.builtin .append, #[x, y], #[t, t2]⟩, ty, ps, af, g⟩).run P w = .ok (.value v') w' := by
    intro v' w' hr
    simp [execOp, resolve, invoke, builtin, hr]
  have hout : ∀ (p : Option Addr) (us : List Value), a.eval x = .slice p n c → RL A w cs us → us.length = n * e → (Builtin.firstCells e n (.slice p n c)).run P w.drew = .ok us.toArray w.drew → c < n + m →
      (0 < m ∨ ∃ k, u = .sc (.slice (some ⟨k, 0, none⟩) n c)) →
      ∃ A' w' v y_1 σ', (execOp a.eval ⟨d, .call ⟨.builtin .append, #[x, y], #[t, t2]⟩, ty, ps, af, g⟩).run P w = .ok (.value v) w' ∧ Ext A w A' w' ∧ Good A' w' σ' ∧ R A' w' y_1 v ∧ K y_1 σ' := by
    intro p us ex hru hlu hold hroom hor
    have hrun := run_append_out (ty := ty) he hi hz hq hlen hfirst hold hroom h47 h63
    rw [← ex] at hrun
    obtain ⟨hg1, hx1⟩ := good_drew hg
    have hg2 := good_gone hg1 u
    have hcut : grownCap w (n + m) c el = n + m + w.tape w.drawn (.appendCap (n + m) c el) % (2 ^ 63 - (n + m)) := rfl
    have hge : n + m ≤ grownCap w (n + m) c el := by omega
    have hle : grownCap w (n + m) c el ≤ maxC := by
      unfold maxC at h63 ⊢
      have : w.tape w.drawn (.appendCap (n + m) c el) % (2 ^ 63 - (n + m)) < 2 ^ 63 - (n + m) := Nat.mod_lt _ (by omega)
      omega
    generalize grownCap w (n + m) c el = cap at hrun hge hle
    have hext := ext_alloc hg2 (.cells (us.toArray ++ vs.toArray ++ Builtin.zeroCells z.cells (cap - (n + m))) el)
    refine ⟨A, _, _, _, _, hstart _ _ hrun, hx1.trans hext, good_alloc hg2 (o' := .cells el (cap * e) (cs ++ ds)) ⟨us ++ vs, (Builtin.zeroCells z.cells (cap - (n + m))).toList, ?_, ?_, ?_⟩, R_sc_mk _, hk _ cap (hg2.none (Nat.le_refl _)) hge (.inl hle) hor⟩
    · rw [alloc_new]
      congr 2
      apply Array.ext'
      simp
    · simp [size_zeroCells, hlu, hlv, hzs]
      rw [← Nat.add_mul, ← Nat.add_mul]
      congr 1
      omega
    · exact RL_append ((hru.ext hx1).ext hext) ((hrv.ext hx1).ext hext)
  cases hd with
  | nil =>
    have ex := R_sc e1
    rcases Nat.eq_zero_or_pos m with hm | hm
    · subst hm
      have hrun := run_append_none (t := t) (t2 := t2) (ty := ty) he hq hlen hfirst
      have hrun : (Builtin.append_ #[t, t2] ty #[a.eval x, a.eval y]).run P w = .ok (.slice none 0 0) w := by rw [ex]; exact hrun
      exact ⟨A, w, .slice none 0 0, _, σ, hstart _ _ hrun, Ext.refl A w, hg, R_sc_mk _, hnil rfl rfl⟩
    · exact hout none [] ex (by simp only [RL]) (by simp) rfl (by omega) (.inl hm)
  | @own k _ _ _ ho hl hc =>
    have ex := R_sc e1
    obtain ⟨C, D, hb, hlC, hrC, hmC⟩ := hg.mem ho
    have hCl := hrC.length
    by_cases hroom : n + m ≤ c
    · have hsz : n * e + vs.length ≤ (C ++ D).length := by
        rw [hlC, hlv, ← Nat.add_mul]
        exact Nat.mul_le_mul_right _ hroom
      have hrun := run_append_in (ty := ty) he hq hlen hfirst hb hsz (RL_one' hrv (List.all_eq_true.2 hone)) hroom
      rw [← ex] at hrun
      have hset : ((gone σ (.sc (.slice (some ⟨k, 0, none⟩) n c))).set k (.cells el (c * e) (cs ++ ds))) = σ.set k (.cells el (c * e) (cs ++ ds)) := by
        funext j; simp only [gone, Store.set, Store.drop]; split <;> rfl
      have hkk := hk k c (by simp [gone, Store.drop]) hroom (.inr rfl) (.inr ⟨k, rfl⟩)
      rw [hset] at hkk
      have hlt := (Array.getElem?_eq_some_iff.1 hb).1
      have hext := ext_set (w := w) (.cells (rep (C ++ D) (n * e) vs).toArray el (0, 0)) (hg.away k _ ho rfl)
      have hre : rep (C ++ D) (n * e) vs = C ++ vs ++ D.drop vs.length := rep_end (by omega)
      refine ⟨A, _, _, _, _, hstart _ _ hrun, hext, good_set hg ho rfl (o' := .cells el (c * e) (cs ++ ds)) ⟨C ++ vs, D.drop vs.length, ?_, ?_, ?_⟩, R_sc_mk _, hkk⟩
      · rw [setBlk_same w _ hlt, hre]
      · rw [← hre, rep_length hsz, hlC]
      · exact RL_append (hrC.ext hext) (hrv.ext hext)
    · exact hout (some ⟨k, 0, none⟩) C ex hrC (by omega) (run_firstCells_some w.drew e n ⟨k, 0, none⟩ n c C (by omega) (fun j u hu => by rw [add_none]; exact hmC j u hu)) (by omega) (.inr ⟨k, rfl⟩)

/-- A variable that stays as it is. -/
theorem om_load_glob {t : TypeId} {n : Nat} {p : Operand} {k : Nat} {x : AV} (ht : tyOf P t = some (false, n)) (hp : get L p = some (.sc (.pointer (some ⟨k, 0, none⟩)))) (ho : σ k = some (.glob x)) (hk : K x σ) :
    OM P N ⟨d, .load t p, ty, ps, af, g⟩ L σ K E :=
  om_val x (fun A w a hg hop => by
    have h1 := R_sc (hop p (by simp [Op.operands]) _ hp)
    obtain ⟨_, v, h2, h3⟩ := hg.own k _ ho
    exact ⟨v, by simp [execOp, h1, Instr.loadAt, Instr.sureAddr, run_loadVar_scal ht h2], h3⟩) hk

/-! ### Calls -/
def getL (L : Slots) : List Operand → Option (List AV)
  | [] => some []
  | x :: r => match get L x, getL L r with
    | some y, some ys => some (y :: ys)
    | _, _ => none

theorem getL_rel {A : Nat → Prop} {w : World} {a : Act} : ∀ {xs : List Operand} {ys : List AV}, (∀ x ∈ xs, ∀ y, get L x = some y → R A w y (a.eval x)) → getL L xs = some ys → RL A w ys (xs.map a.eval)
  | [], ys, _, h => by simp only [getL, Option.some.injEq] at h; subst h; simp [RL]
  | x :: r, ys, ho, h => by
    simp only [getL] at h
    split at h
    · rename_i y zs h1 h2
      cases h
      simp only [List.map_cons, RL]
      exact ⟨_, _, rfl, ho x (by simp) y h1, getL_rel (fun x hx => ho x (by simp [hx])) h2⟩
    · cases h

/-- A function with a body. -/
structure IsFn (P : Program) (f : FuncId) : Prop where
  out : ∃ fn, P.funcs[f]? = some fn ∧ fn.body.isNone = false ∧ (fn.name == "runtime.NumGoroutine") = false

theorem run_callFunc {f : FuncId} (h : IsFn P f) (args : Array Value) (w : World) : (callFunc f args).run P w = .ok (.enter f args) w := by
  obtain ⟨fn, h1, h2, h3⟩ := h.out
  simp only [callFunc, Sem.run_bind, run_program, Result.andThen_ok, h1, h3, h2, Bool.false_eq_true, if_false, Sem.run_pure]

/-- What comes of a call: its value goes on, its panic goes out. -/
def endK (K : AV → Store → Prop) (E : List PanicEntry → Store → Prop) : AEnd → Store → Prop
  | .ret x, σ' => K x σ'
  | .pan ch, σ' => E ch σ'

theorem om_enter {o : Oper} {f : FuncId} {args : List AV} (h : CM P f args σ (endK K E))
    (hrun : ∀ (A : Nat → Prop) (w : World) (a : Act), Good A w σ → (∀ x ∈ o.op.operands, ∀ y, get L x = some y → R A w y (a.eval x)) → ∃ vs : List Value, (execOp a.eval o).run P w = .ok (.enter f vs.toArray) w ∧ RL A w args vs) : OM P N o L σ K E := by
  intro A w a next Q hg _ ho h1 h2
  obtain ⟨vs, hr, hrl⟩ := hrun A w a hg ho
  unfold Oper.wp
  rw [hr, Oper.upon_enter]
  refine (h A w vs hg hrl).mono ?_
  rintro e w' ⟨A', σ', e', he, hg', hre, hq⟩
  cases e' with
  | ret x =>
    cases e with
    | returned v => exact h1 A' w' v x σ' he hg' hre hq
    | panicked ch => exact hre.elim
    | outgrown => exact hre.elim
  | pan ch =>
    cases e with
    | returned v => exact hre.elim
    | panicked ch' => cases hre; exact h2 A' w' ch σ' he hg' hq
    | outgrown => exact hre.elim

theorem om_call {f : FuncId} {xs : Array Operand} {ts : Array TypeId} {args : List AV} (hf : IsFn P f) (hx : getL L xs.toList = some args) (h : CM P f args σ (endK K E)) :
    OM P N ⟨d, .call ⟨.value (.func f), xs, ts⟩, ty, ps, af, g⟩ L σ K E :=
  om_enter h fun A w a _ ho => ⟨xs.toList.map a.eval, by
    simp [execOp, resolve, Deferred.ofValue, Act.eval, invoke, run_callFunc hf]
    rw [show (Array.map a.eval xs) = (xs.toList.map a.eval).toArray by apply Array.ext'; simp]
    , getL_rel (fun x hx => ho x (by simp [Op.operands, Call.operands, Array.mem_toList_iff.1 hx])) hx⟩

theorem om_callv {f : FuncId} {fo : Operand} {xs : Array Operand} {ts : Array TypeId} {us vs args : List AV} (hf : IsFn P f) (hfo : get L fo = some (.fn (.func f) us vs)) (hx : getL L xs.toList = some args) (h : CM P f (us ++ args ++ vs) σ (endK K E)) :
    OM P N ⟨d, .call ⟨.value fo, xs, ts⟩, ty, ps, af, g⟩ L σ K E :=
  om_enter h fun A w a _ ho => by
    have h1 := ho fo (by simp [Op.operands, Call.operands]) _ hfo
    simp only [R] at h1
    obtain ⟨as, bs, h1, h2, h3⟩ := h1
    refine ⟨as ++ xs.toList.map a.eval ++ bs, ?_, RL_append (RL_append h2 (getL_rel (fun x hx => ho x (by simp [Op.operands, Call.operands, Array.mem_toList_iff.1 hx])) hx)) h3⟩
    simp only [execOp, resolve, h1, Deferred.ofValue, Sem.run_bind, Sem.run_pure, Result.andThen_ok, invoke, run_callFunc hf]
    congr 2
    apply Array.ext'
    simp

/-! ### What is told by value from now on -/
theorem good_freeze {A : Nat → Prop} {w : World} (hg : Good A w σ) {k : Nat} {o : AObj} (hk : σ k = some o) : Good (plus A k) w (σ.drop k) ∧ Ext A w (plus A k) w := by
  have he : Ext A w (plus A k) w := ⟨fun _ h => .inl h, fun _ _ => rfl, Nat.le_refl _, rfl, rfl, rfl⟩
  refine ⟨⟨fun b hb => ?_, fun j p hj hp ha => ?_, fun j p hj => ?_⟩, he⟩
  · rcases hb with hb | rfl
    · exact hg.inb b hb
    · exact hg.lt hk
  · simp only [Store.drop] at hj
    split at hj
    · cases hj
    · rename_i hne
      rcases ha with ha | ha
      · exact hg.away j p hj hp ha
      · exact hne ha
  · simp only [Store.drop] at hj
    split at hj
    · cases hj
    · exact (hg.own j p hj).ext he rfl

theorem freeze_slice {A : Nat → Prop} {w : World} (hg : Good A w σ) {k t n c e : Nat} {xs : List AV} (hk : σ k = some (.cells t n (flat xs))) (hw : widths e xs = true) (hc : xs.length ≤ c) (hm : c ≤ maxC) :
    R (plus A k) w (.slv e xs) (.slice (some ⟨k, 0, none⟩) xs.length c) := by
  obtain ⟨C, D, _, _, h3, h4⟩ := hg.mem hk
  have he := (good_freeze hg hk).2
  simp only [R]
  exact ⟨_, c, rfl, hc, hm, .inr ⟨k, 0, rfl, .inr rfl, RE_mk xs 0 C hw (h3.ext he) h4⟩⟩

theorem freeze_ref {A : Nat → Prop} {w : World} (hg : Good A w σ) {k t n : Nat} {x : AV} (hk : σ k = some (.cells t n x.cells)) (off : Nat) : R (plus A k) w (.ref x off) (.pointer (some ⟨k, off, none⟩)) := by
  obtain ⟨C, D, _, _, h3, h4⟩ := hg.mem hk
  have he := (good_freeze hg hk).2
  obtain ⟨v, h5, h6⟩ := R_of_cells h3
  simp only [R]
  exact ⟨k, 0, v, by rw [Nat.zero_add], .inr rfl, h5.ext he, by rw [h6]; exact h4⟩

theorem slot_lt {a : Act} {s : Nat} {v : Value} (h : a.tmps.getD s undef = v) (hv : v ≠ undef) : s < a.tmps.size := by
  rcases Nat.lt_or_ge s a.tmps.size with h' | h'
  · exact h'
  · rw [Array.getD_eq_getD_getElem?, Array.getElem?_eq_none h'] at h
    exact absurd h.symm hv

/-- A slot's holding is told otherwise. -/
theorem RF.cast {A A' : Nat → Prop} {w : World} {s : Nat} {x y : AV} {a : Act} (hf : RF A w N L a) (he : Ext A w A' w) (hx : look L s = some x) (hc : ∀ v, R A w x v → R A' w y v) : RF A' w N ((s, y) :: L) a := by
  have h1 := hf.ext he
  refine ⟨h1.size, h1.defers, fun t u hu => ?_⟩
  rw [look_cons] at hu
  split at hu
  · rename_i e; subst e; cases hu; exact hc _ (hf.at_ t x hx)
  · exact h1.at_ t u hu

theorem wm_freeze {c : Code} {Q : Exit → Slots → Store → Prop} {k t n m e s : Nat} {xs : List AV} (ho : σ k = some (.cells t n (flat xs))) (hs : look L s = some (.sc (.slice (some ⟨k, 0, none⟩) xs.length m))) (hw : widths e xs = true)
    (hc : xs.length ≤ m) (hm : m ≤ maxC) (h : WM P N c Q ((s, .slv e xs) :: L) (σ.drop k)) : WM P N c Q L σ := by
  intro A w a hg hf
  obtain ⟨hg', he⟩ := good_freeze hg ho
  exact wp_mono (h (plus A k) w a hg' (hf.cast he hs (fun v hv => by rw [R_sc hv]; exact freeze_slice hg ho hw hc hm))) fun _ _ _ q => q.ext he

theorem wm_nil {c : Code} {Q : Exit → Slots → Store → Prop} {e s : Nat} (hs : look L s = some (.sc (.slice none 0 0))) (h : WM P N c Q ((s, .slv e []) :: L) σ) : WM P N c Q L σ := by
  intro A w a hg hf
  exact h A w a hg (hf.cast (Ext.refl A w) hs (fun v hv => by rw [R_sc hv]; simp only [R]; exact ⟨none, 0, rfl, by simp, by unfold maxC; omega, .inl trivial⟩))

theorem wm_freeze_ref {c : Code} {Q : Exit → Slots → Store → Prop} {k t n s off : Nat} {x : AV} (ho : σ k = some (.cells t n x.cells)) (hs : look L s = some (.sc (.pointer (some ⟨k, off, none⟩)))) (h : WM P N c Q ((s, .ref x off) :: L) (σ.drop k)) : WM P N c Q L σ := by
  intro A w a hg hf
  obtain ⟨hg', he⟩ := good_freeze hg ho
  exact wp_mono (h (plus A k) w a hg' (hf.cast he hs (fun v hv => by rw [R_sc hv]; exact freeze_ref hg ho off))) fun _ _ _ q => q.ext he

theorem wm_drop {c : Code} {Q : Exit → Slots → Store → Prop} (k : Nat) (h : WM P N c Q L (σ.drop k)) : WM P N c Q L σ :=
  fun A w a hg hf => h A w a (good_drop hg k) hf

end Go.Gw
