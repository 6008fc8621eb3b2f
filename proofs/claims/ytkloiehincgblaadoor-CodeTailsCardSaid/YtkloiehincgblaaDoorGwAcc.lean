/- Slices that grow: what is appended to is owned, its store told apart from the rest. -/
import Derived.Test.YtkloiehincgblaaDoorGwCode
namespace Go.Gw
variable {P : Program} {N : Nat} {L : Slots} {σ τ : Store} {K : AV → Store → Prop} {E : List PanicEntry → Store → Prop}
variable {d : Option Tmp} {ty : TypeId} {ps : String} {af : Array Edge} {g : Option (Nat × Bool)}

abbrev Acc := Option (Nat × Nat)
def accU (a : Acc) (n : Nat) : AV := .sc (.slice (a.map fun q => ⟨q.1, 0, none⟩) n (a.elim 0 (·.2)))
def accS {α : Type} (σ : Store) (a : Acc) (el e : Nat) (f : α → AV) (xs : List α) : Store := match a with
  | none => σ
  | some (k, c) => σ.set k (.cells el (c * e) (flat (xs.map f)))
def accOk (σ : Store) (a : Acc) (n : Nat) : Prop := match a with
  | none => n = 0
  | some (k, c) => σ k = none ∧ n ≤ c ∧ c ≤ maxC
def offA (a : Acc) (j : Nat) : Prop := ∀ k c, a = some (k, c) → j ≠ k

/-- What an element's cells are. -/
structure Enc {α : Type} (e : Nat) (f : α → AV) : Prop where
  wid : ∀ x, (f x).cells.length = e
  one : ∀ x, ∀ y ∈ (f x).cells, y.one = true

theorem Enc.widths {α : Type} {e : Nat} {f : α → AV} (h : Enc e f) : ∀ xs : List α, widths e (xs.map f) = true
  | [] => rfl
  | x :: xs => by simp [Gw.widths, h.widths xs, h.wid x]
theorem Enc.all {α : Type} {e : Nat} {f : α → AV} (h : Enc e f) : ∀ xs : List α, ∀ y ∈ flat (xs.map f), y.one = true
  | [], y, hy => by simp [flat] at hy
  | x :: xs, y, hy => by
    simp only [List.map_cons, flat, List.mem_append] at hy
    rcases hy with hy | hy
    · exact h.one x y hy
    · exact h.all xs y hy
theorem Enc.len {α : Type} {e : Nat} {f : α → AV} (h : Enc e f) (xs : List α) : (flat (xs.map f)).length = xs.length * e := by
  rw [flat_length (h.widths xs), List.length_map]

section
variable {α : Type} {a : Acc} {el e n j : Nat} {f : α → AV} {xs : List α} {o : AObj}
theorem accOk.off (h : accOk σ a n) (hj : σ j = some o) : offA a j := by
  rintro k c rfl rfl
  simp only [accOk] at h
  rw [h.1] at hj
  cases hj
theorem accS_off (h : accS σ a el e f xs j = none) : offA a j := by
  rintro k c rfl rfl
  simp [accS, Store.set] at h
theorem accS_none (h : accS σ a el e f xs j = none) : σ j = none := by
  unfold accS at h
  split at h
  · exact h
  · simp only [Store.set] at h
    split at h
    · cases h
    · exact h
theorem accS_set (h : offA a j) : (accS σ a el e f xs).set j o = accS (σ.set j o) a el e f xs := by
  obtain _ | ⟨k, c⟩ := a
  · rfl
  · exact Store.set_comm σ _ _ (h k c rfl).symm
theorem accOk.set (hk : accOk σ a n) (h : offA a j) : accOk (σ.set j o) a n := by
  obtain _ | ⟨k, c⟩ := a
  · exact hk
  · exact ⟨by rw [Store.set_other _ _ _ (h k c rfl).symm]; exact hk.1, hk.2⟩
theorem accS_get (hk : accOk σ a n) (h : σ j = some o) : accS σ a el e f xs j = some o := by
  have := hk.off h
  obtain _ | ⟨k, c⟩ := a
  · exact h
  · rw [accS, Store.set_other _ _ _ (this k c rfl)]; exact h
theorem accS_less {ρ : Store} (h : Less ρ σ) : Less (accS ρ a el e f xs) (accS σ a el e f xs) := by
  obtain _ | ⟨k, c⟩ := a
  · exact h
  · exact h.set _ _
theorem accS_more (hk : accOk σ a n) : Less σ (accS σ a el e f xs) := by
  obtain _ | ⟨k, c⟩ := a
  · exact Less.refl _
  · exact Less.new hk.1 _
theorem accOk.less {ρ : Store} (hk : accOk σ a n) (h : Less ρ σ) : accOk ρ a n := by
  obtain _ | ⟨k, c⟩ := a
  · exact hk
  · refine ⟨?_, hk.2⟩
    cases hr : ρ k with
    | none => rfl
    | some o => have h1 := hk.1; rw [h k o hr] at h1; cases h1
theorem accOk.dom {ρ : Store} (hk : accOk σ a n) (h : ∀ j, σ j = none → ρ j = none) : accOk ρ a n := by
  obtain _ | ⟨k, c⟩ := a
  · exact hk
  · exact ⟨h k hk.1, hk.2⟩
theorem accOk_nil : accOk σ none 0 := rfl
theorem accS_nil : accS σ none el e f xs = σ := rfl
end

/-! ### One store within another, block by block -/
def LessX (S : List Nat) (τ σ : Store) : Prop := ∀ j o, j ∉ S → τ j = some o → σ j = some o
theorem less_top {τ σ : Store} (h : LessX [] τ σ) : Less τ σ := fun j o hj => h j o (by simp) hj
theorem lx_base {S : List Nat} {σ : Store} : LessX S σ σ := fun _ _ _ h => h
theorem lx_less {S : List Nat} {τ σ : Store} (h : Less τ σ) : LessX S τ σ := fun j o _ hj => h j o hj
theorem lx_set {S : List Nat} {τ σ : Store} {k : Nat} {o : AObj} (h : σ k = some o) (h2 : LessX (k :: S) τ σ) : LessX S (τ.set k o) σ := fun j p hs hj => by
  by_cases e : j = k
  · subst e; rw [Store.set_same] at hj; rw [h]; exact hj
  · rw [Store.set_other _ _ _ e] at hj
    exact h2 j p (by simp [e, hs]) hj
theorem lx_in {S : List Nat} {τ σ : Store} {k : Nat} {o : AObj} (hk : k ∈ S) (h : LessX S τ σ) : LessX S τ (σ.set k o) := fun j p hs hj => by
  rw [Store.set_other _ _ _ (by rintro rfl; exact hs hk)]; exact h j p hs hj
theorem lx_new {S : List Nat} {τ σ : Store} {k : Nat} {o : AObj} (hk : τ k = none) (h : LessX S τ σ) : LessX S τ (σ.set k o) := fun j p hs hj => by
  rw [Store.set_other _ _ _ (by rintro rfl; rw [hk] at hj; cases hj)]; exact h j p hs hj
theorem lx_drop {S : List Nat} {τ σ : Store} {k : Nat} (hk : τ k = none) (h : LessX S τ σ) : LessX S τ (σ.drop k) := fun j p hs hj => by
  rw [drop_other _ _ (by rintro rfl; rw [hk] at hj; cases hj)]; exact h j p hs hj
theorem none_set {σ : Store} {k j : Nat} {o : AObj} (h : (σ.set k o) j = none) : σ j = none := by
  simp only [Store.set] at h
  split at h
  · cases h
  · exact h
theorem ne_of {σ : Store} {k j : Nat} {o : AObj} (h : σ j = some o) (hk : σ k = none) : j ≠ k := by rintro rfl; rw [hk] at h; cases h

/-- An append to a growing slice. -/
theorem om_acc {α : Type} {t t2 el e bytes : Nat} {x y : Operand} {f : α → AV} {a : Acc} {xs ys : List α} (ha : Ap P t el e bytes) (hq : ∃ q, P.underlying t2 = some (.slice q)) (hf : Enc e f)
    (hx : get L x = some (accU a xs.length)) (hy : get L y = some (slA e f ys)) (hs : τ = accS σ a el e f xs) (hok : accOk σ a xs.length) (hb : (xs.length + ys.length) * bytes ≤ 140737488355328) (hb' : xs.length + ys.length ≤ 9223372036854775807)
    (hk : ∀ a', accOk σ a' (xs ++ ys).length → K (accU a' (xs ++ ys).length) (accS σ a' el e f (xs ++ ys))) :
    OM P N ⟨d, .call ⟨.builtin .append, #[x, y], #[t, t2]⟩, ty, ps, af, g⟩ L τ K E := by
  subst hs
  have hsrc : ∀ σ, Src P σ e (slA e f ys) ys.length (flat (ys.map f)) := fun σ => by
    have := src_slv (P := P) (σ := σ) e (ys.map f)
    rw [List.length_map] at this
    exact this
  obtain _ | ⟨k, c⟩ := a
  · have hxs : xs = [] := List.eq_nil_of_length_eq_zero hok
    subst hxs
    refine om_app (n := 0) (c := 0) (cs := []) ha (.inl hq) hx hy .nil (hsrc _) (hf.all ys) (by simpa using hb) (by unfold maxC; simp at hb'; omega) (fun hm _ => ?_) (fun k' c' h1 h2 h3 h4 => ?_)
    · have hys : ys = [] := List.eq_nil_of_length_eq_zero hm
      subst hys
      exact hk none rfl
    · have := hk (some (k', c')) ⟨h1, by simp; omega, by rcases h3 with h3 | h3 <;> unfold maxC at * <;> omega⟩
      simpa [accU, accS, gone] using this
  · obtain ⟨h1, h2, h3⟩ := hok
    have hcs : accS σ (some (k, c)) el e f xs k = some (.cells el (c * e) (flat (xs.map f))) := Store.set_same _ _ _
    refine om_app ha (.inl hq) hx hy (.own hcs (hf.len xs) h2) (hsrc _) (hf.all ys) hb hb' (fun _ hu => by simp [accU] at hu) (fun k' c' h4 h5 h6 h7 => ?_)
    have hg : gone (accS σ (some (k, c)) el e f xs) (accU (some (k, c)) xs.length) = σ := by
      show (accS σ (some (k, c)) el e f xs).drop k = σ
      simp only [accS, Store.drop_set, Store.drop_none _ h1]
    rw [hg] at h4 ⊢
    have h6' : c' ≤ maxC ∨ c' = c := h6
    have := hk (some (k', c')) ⟨h4, by simp; omega, by rcases h6' with h6 | h6 <;> omega⟩
    simpa [accU, accS, flat_append] using this

theorem om_acc1 {α : Type} {t t2 el e bytes : Nat} {x y : Operand} {f : α → AV} {a : Acc} {xs : List α} (v : α) (ha : Ap P t el e bytes) (hq : ∃ q, P.underlying t2 = some (.slice q)) (hf : Enc e f)
    (hx : get L x = some (accU a xs.length)) (hy : get L y = some (.slv e [f v])) (hs : τ = accS σ a el e f xs) (hok : accOk σ a xs.length) (hb : (xs.length + 1) * bytes ≤ 140737488355328) (hb' : xs.length + 1 ≤ 9223372036854775807)
    (hk : ∀ a', accOk σ a' (xs ++ [v]).length → K (accU a' (xs ++ [v]).length) (accS σ a' el e f (xs ++ [v]))) :
    OM P N ⟨d, .call ⟨.builtin .append, #[x, y], #[t, t2]⟩, ty, ps, af, g⟩ L τ K E := om_acc (ys := [v]) ha hq hf hx hy hs hok hb hb' hk

/-- A growing slice is told by value from now on. -/
theorem acc_rel {α : Type} {A : Nat → Prop} {w : World} {a : Acc} {el e : Nat} {f : α → AV} {xs : List α} (hf : Enc e f) (hg : Good A w (accS σ a el e f xs)) (hok : accOk σ a xs.length) :
    ∃ A', Good A' w σ ∧ Ext A w A' w ∧ ∀ v, R A w (accU a xs.length) v → R A' w (slA e f xs) v := by
  obtain _ | ⟨k, c⟩ := a
  · refine ⟨A, hg, Ext.refl A w, fun v hv => ?_⟩
    have hxs : xs = [] := List.eq_nil_of_length_eq_zero hok
    subst hxs
    rw [R_sc hv]
    simp only [slA, List.map_nil, R]
    exact ⟨none, 0, rfl, by simp, by unfold maxC; omega, .inl trivial⟩
  · obtain ⟨h1, h2, h3⟩ := hok
    have hcs : accS σ (some (k, c)) el e f xs k = some (.cells el (c * e) (flat (xs.map f))) := Store.set_same _ _ _
    obtain ⟨hg', he⟩ := good_freeze hg hcs
    have hd : (accS σ (some (k, c)) el e f xs).drop k = σ := by simp only [accS, Store.drop_set, Store.drop_none _ h1]
    rw [hd] at hg'
    refine ⟨_, hg', he, fun v hv => ?_⟩
    rw [R_sc hv]
    have := freeze_slice (c := c) hg hcs (hf.widths xs) (by simpa using h2) h3
    rw [List.length_map] at this
    exact this

theorem wm_acc {α : Type} {c : Code} {Q : Exit → Slots → Store → Prop} {a : Acc} {s el e : Nat} {f : α → AV} {xs : List α} (hf : Enc e f) (hs : look L s = some (accU a xs.length)) (hτ : τ = accS σ a el e f xs) (hok : accOk σ a xs.length)
    (h : WM P N c Q ((s, slA e f xs) :: L) σ) : WM P N c Q L τ := by
  intro A w b hg hr
  subst hτ
  obtain ⟨A', hg', he, hc⟩ := acc_rel hf hg hok
  exact wp_mono (h A' w b hg' (hr.cast he hs hc)) fun _ _ _ q => q.ext he

theorem RL_set {A A' : Nat → Prop} {w : World} {x : AV} (he : Ext A w A' w) : ∀ {cs : List AV} {vs : List Value} {i : Nat} {y : AV}, RL A w cs vs → cs[i]? = some y → (∀ v, R A w y v → R A' w x v) → RL A' w (cs.set i x) vs
  | [], _, _, _, _, h, _ => by simp at h
  | c :: cs, vs, 0, y, hr, h, hc => by
    simp only [RL] at hr
    obtain ⟨v, r, rfl, h1, h2⟩ := hr
    simp only [List.getElem?_cons_zero, Option.some.injEq] at h
    subst h
    simp only [List.set_cons_zero, RL]
    exact ⟨v, r, rfl, hc v h1, h2.ext he⟩
  | c :: cs, vs, i + 1, y, hr, h, hc => by
    simp only [RL] at hr
    obtain ⟨v, r, rfl, h1, h2⟩ := hr
    simp only [List.getElem?_cons_succ] at h
    simp only [List.set_cons_succ, RL]
    exact ⟨v, r, rfl, h1.ext he, RL_set he h2 h hc⟩

/-- The same for one that lies in an owned block. -/
theorem wm_acc_in {α : Type} {c : Code} {Q : Exit → Slots → Store → Prop} {a : Acc} (k i : Nat) {t n el e : Nat} {cs cs' : List AV} {f : α → AV} {xs : List α} (hf : Enc e f) (hτ : τ = accS σ a el e f xs) (hok : accOk σ a xs.length)
    (hk : σ k = some (.cells t n cs)) (hi : cs[i]? = some (accU a xs.length)) (hcs : cs.set i (slA e f xs) = cs') (h : WM P N c Q L (σ.set k (.cells t n cs'))) : WM P N c Q L τ := by
  subst hcs
  intro A w b hg hr
  subst hτ
  have hcell := accS_get (el := el) (e := e) (f := f) (xs := xs) hok hk
  obtain ⟨A', hg', he, hc⟩ := acc_rel hf hg hok
  refine wp_mono (h A' w b ?_ (hr.ext he)) fun _ _ _ q => q.ext he
  obtain ⟨C, D, h1, h2, h3⟩ := hg'.own k _ hk
  refine ⟨hg'.inb, fun j o hj hm => ?_, fun j o hj => ?_⟩
  · by_cases e : j = k
    · subst e; exact hg'.away j _ hk rfl
    · rw [Store.set_other _ _ _ e] at hj; exact hg'.away j o hj hm
  · by_cases e : j = k
    · subst e
      rw [Store.set_same] at hj
      cases hj
      obtain ⟨C', D', k1, k2, k3⟩ := hg.own j _ hcell
      exact ⟨C', D', k1, k2, RL_set he k3 hi hc⟩
    · rw [Store.set_other _ _ _ e] at hj; exact hg'.own j o hj

/-- A result that lies in a block of its own. -/
theorem res_cell {fn : Func} {s t tb k m n : Nat} {ag : Bool} {cs : List AV} {x : AV} (h : fn.results = #[.cell s t]) (ht : tyOf P t = some (ag, n)) (hp : look L s = some (.sc (.pointer (some ⟨k, 0, none⟩)))) (ho : σ k = some (.cells tb m cs))
    (hy : Gw.pick ag n 0 cs = some x) : ResM P fn N L σ x := by
  intro A w a hg hf
  have h1 := R_sc (hf.at_ s _ hp)
  obtain ⟨C, D, _, _, h3, h4⟩ := hg.mem ho
  obtain ⟨u, h5, h6⟩ := run_pick (P := P) (off := 0) ht hy h3 h4
  refine ⟨u, ?_, h6⟩
  have h1' : a.tmps[s]?.getD undef = .pointer (some ⟨k, 0, none⟩) := by simpa [Array.getD_eq_getD_getElem?] using h1
  rw [Nat.add_zero] at h5
  simp [results, h, h1', asAddr, h5]

/-- A store whose cells are told. -/
theorem ag_cells (xs : List AV) : (AV.agg xs).cells = xs := rfl
theorem in_cells (k : IntKind) (n : Int) : (AV.sc (.int k n)).cells = [.sc (.int k n)] := rfl
theorem st_cells (s : ByteArray) : (AV.sc (.string s)).cells = [.sc (.string s)] := rfl
theorem bo_cells (b : Bool) : (AV.sc (.bool b)).cells = [.sc (.bool b)] := rfl
theorem po_cells (p : Option Addr) : (AV.sc (.pointer p)).cells = [.sc (.pointer p)] := rfl
theorem sl_cells (p : Option Addr) (n c : Nat) : (AV.sc (.slice p n c)).cells = [.sc (.slice p n c)] := rfl
theorem ni_cells : (AV.sc .nilIface).cells = [.sc .nilIface] := rfl
theorem if_cells (t : TypeId) (v : Value) : (AV.sc (.iface t v)).cells = [.sc (.iface t v)] := rfl
theorem sv_cells (e : Nat) (xs : List AV) : (AV.slv e xs).cells = [.slv e xs] := rfl
theorem re_cells (x : AV) (o : Nat) : (AV.ref x o).cells = [.ref x o] := rfl
theorem ic_cells (t : TypeId) (x : AV) : (AV.ifc t x).cells = [.ifc t x] := rfl
theorem iA_cells (n : Int) : (iA n).cells = [iA n] := rfl
theorem sA_cells (s : ByteArray) : (sA s).cells = [sA s] := rfl
theorem slA_cells {α : Type} (e : Nat) (f : α → AV) (xs : List α) : (slA e f xs).cells = [slA e f xs] := rfl
theorem accU_cells (a : Acc) (n : Nat) : (accU a n).cells = [accU a n] := rfl
theorem om_store_to {t tb : TypeId} {ag : Bool} {n m : Nat} {p x : Operand} {k off : Nat} {cs cs' : List AV} {y : AV} (ht : tyOf P t = some (ag, n)) (hp : get L p = some (.sc (.pointer (some ⟨k, off, none⟩))))
    (ho : σ k = some (.cells tb m cs)) (hx : get L x = some y) (hn : y.cells.length = n) (hone : y.cells.all AV.one = true) (hle' : Nat.ble (off + n) cs.length = true) (hc : repA cs off y.cells = cs')
    (hk : K (.sc undef) (σ.set k (.cells tb m cs'))) : OM P N ⟨d, .store t p x, ty, ps, af, g⟩ L σ K E := om_store_own ht hp ho hx hn hone hle' (by rw [hc]; exact hk)
theorem om_alloc_to {t n : Nat} {z : Value} {cs : List AV} (hz : zeroOf P t = some z) (hn : z.cells.size = n) (hc : z.cells.toList.map .sc = cs) (hk : ∀ k, σ k = none → K (.sc (.pointer (some ⟨k, 0, none⟩))) (σ.set k (.cells t n cs))) :
    OM P N ⟨d, .alloc t, ty, ps, af, g⟩ L σ K E := by
  subst hn hc
  exact om_alloc hz hk

/-- A slice of one. -/
theorem om_slice_one {t el : TypeId} {e : Nat} {z : Value} {x : Operand} {y : AV} (he : elmOf P t = some (el, e)) (hz : zeroOf P el = some z) (hx : get L x = some y) (hw : Nat.beq y.cells.length e = true) (hle : Nat.ble e 16777216 = true)
    (hk : K (.slv e [y]) σ) : OM P N ⟨d, .buildSlice t 1 #[(0, x)], ty, ps, af, g⟩ L σ K E := by
  have hwe := Nat.eq_of_beq_eq_true hw
  have hz' : (zerosOf z (1 * e)).length = e := by simp [zerosOf]
  refine om_buildSlice_imm [y] he hz (ps' := [(0, y)]) ?_ ?_ ?_ rfl (by simp [widths, hw]) rfl hk
  · simp only [getParts, hx]
  · have h1 : Nat.ble (0 * e + e) (zerosOf z (1 * e)).length = true := by rw [hz']; simp [Nat.ble_eq]
    have h2 : repA (zerosOf z (1 * e)) (0 * e) y.cells = flat [y] := by
      simp only [repA, Nat.zero_mul, List.take_zero, List.nil_append, Nat.zero_add, flat]
      rw [List.drop_of_length_le (by omega)]
    simp only [fillA, hw, h1, h2, Bool.and_self, cond_true]
  · simpa using hle

/-- What comes behind is told once: all that led here is told alike. -/
theorem wm_join {x y : Code} {ι : Type} {Q : Exit → Slots → Store → Prop} (L1 : ι → Slots) (T1 : ι → Store) (h : WM P N x (thenM (fun L σ => ∃ i, Sub (L1 i) L ∧ Less (T1 i) σ) Q) L σ) (h2 : ∀ i, WM P N y Q (L1 i) (T1 i)) :
    WM P N (.seq x y) Q L σ := by
  refine wm_seq (wm_mono h fun e L σ hq => ?_)
  cases e <;> first
    | exact hq
    | (obtain ⟨i, hs, hl⟩ := hq
       exact wm_sub hs (wm_less hl (h2 i)))

theorem nilB_er {te : TypeId} {ad : Er → Addr} (e : Option Er) : nilB (erA te ad e) = some e.isNone := by cases e <;> rfl

section
variable {α : Type} {f : RS → α × RS} {n : Int} {b : By} {e : Er} {s s' : RS} {x : α}
theorem many_zero (h : n ≤ 0) : many f n.toNat s = ([], s) := by
  rw [show n.toNat = 0 by omega]; rfl
theorem many_err (k : Nat) : many f k (b, some e) = ([], (b, some e)) := by cases k <;> rfl
theorem many_go (h : 0 < n) (hf : f (b, none) = (x, s')) : many f n.toNat (b, none) = (x :: (many f (n - 1).toNat s').1, (many f (n - 1).toNat s').2) := by
  rw [show n.toNat = (n - 1).toNat + 1 by omega]
  simp only [many, hf]
end

/-! ### What of package code is appended -/
theorem u8A_enc : Enc 1 u8A := ⟨fun _ => rfl, fun x y hy => by simp [u8A, AV.cells] at hy; subst hy; rfl⟩
theorem valA_enc : Enc 2 CVal.A := ⟨fun _ => rfl, fun x y hy => by simp [CVal.A, AV.cells, iA] at hy; rcases hy with rfl | rfl <;> rfl⟩
theorem altA_enc : Enc 4 CAlt.A := ⟨fun _ => rfl, fun x y hy => by simp [CAlt.A, AV.cells, iA] at hy; rcases hy with rfl | rfl | rfl | rfl <;> rfl⟩
theorem tagA_enc : Enc 4 CTag.A := ⟨fun _ => rfl, fun x y hy => by simp [CTag.A, AV.cells, iA, sA] at hy; rcases hy with rfl | rfl | rfl | rfl <;> rfl⟩
theorem funA_enc : Enc 3 CFun.A := ⟨fun _ => rfl, fun x y hy => by simp [CFun.A, AV.cells, iA] at hy; rcases hy with rfl | rfl | rfl <;> rfl⟩
theorem insA_enc : Enc 8 CIns.A := ⟨fun _ => rfl, fun x y hy => by simp [CIns.A, AV.cells, iA, sA, slA] at hy; rcases hy with rfl | rfl | rfl | rfl | rfl | rfl | rfl | rfl <;> rfl⟩
end Go.Gw
