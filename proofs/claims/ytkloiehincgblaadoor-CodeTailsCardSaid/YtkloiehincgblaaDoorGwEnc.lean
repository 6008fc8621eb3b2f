/- How Go's data are told. -/
import Derived.Test.YtkloiehincgblaaDoorGwStep
import Derived.Laws.BytesString
namespace Go.Gw
variable {P : Program} {N : Nat} {L : Slots} {σ : Store} {K : AV → Store → Prop} {E : List PanicEntry → Store → Prop}
variable {d : Option Tmp} {ty : TypeId} {ps : String} {af : Array Edge} {g : Option (Nat × Bool)}

/-- A slice of data that are told one by one. -/
def slA {α : Type} (e : Nat) (f : α → AV) (xs : List α) : AV := .slv e (xs.map f)

theorem om_len_slA {α : Type} {t el : TypeId} {x : Operand} {e : Nat} {f : α → AV} {xs : List α} (hu : P.underlying t = some (.slice el)) (hx : get L x = some (slA e f xs)) (hk : xs.length ≤ 9223372036854775807 → K (.sc (.int .i64 xs.length)) σ) :
    OM P N ⟨d, .call ⟨.builtin .len, #[x], #[t]⟩, ty, ps, af, g⟩ L σ K E := om_len_slv hu hx (by simpa [maxC] using hk)

theorem om_index_slA {α : Type} {t el : TypeId} {e : Nat} {x i : Operand} {f : α → AV} {xs : List α} {k : IntKind} {j : Nat} (he : elmOf P t = some (el, e)) (hx : get L x = some (slA e f xs)) (hi : get L i = some (.sc (.int k (j : Int))))
    (hj : j < xs.length) (hk : K (.ref (f xs[j]) 0) σ) : OM P N ⟨d, .indexAddr t x i, ty, ps, af, g⟩ L σ K E :=
  om_indexAddr_slv he hx hi (by omega) (by simp [hj]) hk

theorem om_slice_slA {α : Type} {t el : TypeId} {e : Nat} {x : Operand} {lo hi : Option Operand} {f : α → AV} {xs : List α} {l h : Int} (he : elmOf P t = some (el, e)) (hx : get L x = some (slA e f xs))
    (hl : getB L 0 lo = some l) (hh : getB L (xs.length : Int) hi = some h) (h0 : 0 ≤ l) (h1 : l ≤ h) (h2 : h ≤ xs.length) (hk : K (slA e f ((xs.drop l.toNat).take (h.toNat - l.toNat))) σ) :
    OM P N ⟨d, .slice t x lo hi none, ty, ps, af, g⟩ L σ K E :=
  om_slice_slv he hx hl (by simpa using hh) h0 h1 (by simpa using h2) (by simpa [slA, List.map_drop, List.map_take] using hk)

/-- The end: what is returned is known, the owned blocks are as they were (more may be let go). -/
theorem fin_ret {fn : Func} {x y : AV} {τ : Store} (h : ResM P fn N L σ x) (hle : Less τ σ) (he : x = y) : ∃ z τ', ResM P fn N L σ z ∧ Less τ' σ ∧ Ret y τ (.ret z) τ' := ⟨x, τ, h, hle, by rw [he], rfl⟩

abbrev By := List UInt8
def u8A (b : UInt8) : AV := .sc (.int .u8 b.toNat)
def bytesA (l : By) : AV := slA 1 u8A l

theorem set_apply (σ : Store) (k : Nat) (o : AObj) (j : Nat) : (σ.set k o) j = if j = k then some o else σ j := rfl
theorem drop_apply (σ : Store) (k : Nat) (j : Nat) : (σ.drop k) j = if j = k then none else σ j := rfl

theorem drop_other (σ : Store) (k : Nat) {j : Nat} (h : j ≠ k) : σ.drop k j = σ j := by simp [Store.drop, h]

theorem om_slice_from {α : Type} {t el : TypeId} {e : Nat} {x o : Operand} {f : α → AV} {xs : List α} {l : Int} (he : elmOf P t = some (el, e)) (hx : get L x = some (slA e f xs))
    (hl : getB L 0 (some o) = some l) (h0 : 0 ≤ l) (h1 : l ≤ xs.length) (hk : K (slA e f (xs.drop l.toNat)) σ) : OM P N ⟨d, .slice t x (some o) none none, ty, ps, af, g⟩ L σ K E :=
  om_slice_slA he hx hl (h := (xs.length : Int)) rfl h0 h1 (Int.le_refl _) (by
    rw [List.take_of_length_le (by simp)]; exact hk)
theorem om_slice_to {α : Type} {t el : TypeId} {e : Nat} {x o : Operand} {f : α → AV} {xs : List α} {h : Int} (he : elmOf P t = some (el, e)) (hx : get L x = some (slA e f xs))
    (hh : getB L (xs.length : Int) (some o) = some h) (h0 : 0 ≤ h) (h1 : h ≤ xs.length) (hk : K (slA e f (xs.take h.toNat)) σ) : OM P N ⟨d, .slice t x none (some o) none, ty, ps, af, g⟩ L σ K E :=
  om_slice_slA he hx (l := 0) rfl hh (Int.le_refl _) h0 h1 (by simpa using hk)

theorem om_shl {t t' : TypeId} {x y : Operand} {k k' : IntKind} {a b : Int} (hx : get L x = some (.sc (.int k a))) (hy : get L y = some (.sc (.int k' b))) (h0 : 0 ≤ b) (hk : K (.sc (.int k (k.wrap (a * 2 ^ min b.toNat k.bits)))) σ) :
    OM P N ⟨d, .binOp .shl t x y t', ty, ps, af, g⟩ L σ K E := om_bin hx hy (by simp [scBin, Int.not_lt.2 h0]) hk
theorem om_shr {t t' : TypeId} {x y : Operand} {k k' : IntKind} {a b : Int} (hx : get L x = some (.sc (.int k a))) (hy : get L y = some (.sc (.int k' b))) (h0 : 0 ≤ b) (hk : K (.sc (.int k (a.fdiv (2 ^ min b.toNat k.bits)))) σ) :
    OM P N ⟨d, .binOp .shr t x y t', ty, ps, af, g⟩ L σ K E := om_bin hx hy (by simp [scBin, Int.not_lt.2 h0]) hk
theorem om_mul64 {t t' : TypeId} {x y : Operand} {u v : Int} (hx : get L x = some (.sc (.int .i64 u))) (hy : get L y = some (.sc (.int .i64 v))) (hb : -9223372036854775808 ≤ u * v ∧ u * v < 9223372036854775808) (hk : K (.sc (.int .i64 (u * v))) σ) :
    OM P N ⟨d, .binOp .mul t x y t', ty, ps, af, g⟩ L σ K E := om_bin hx hy rfl (by rw [wrap64_in hb]; exact hk)

/-! ### Bytes as a text -/
def strOf (l : By) : ByteArray := ⟨l.toArray⟩
theorem foldl_push (l : By) (s : ByteArray) : (l.map fun b => (b.toNat : Int)).foldl (fun r n => r.push (UInt8.ofNat n.toNat)) s = ⟨s.data ++ l.toArray⟩ := by
  induction l generalizing s with
  | nil => simp
  | cons b l ih =>
    simp only [List.map_cons, List.foldl_cons]
    rw [ih]
    congr 1
    apply Array.ext'
    simp [ByteArray.push]
theorem RL_map_sc {A : Nat → Prop} {w : World} : ∀ (us : List Value) (vs : List Value), RL A w (us.map .sc) vs → vs = us
  | [], vs, h => by simpa only [List.map_nil, RL] using h
  | u :: us, vs, h => by
    simp only [List.map_cons, RL] at h
    obtain ⟨v, r, rfl, h1, h2⟩ := h
    rw [R_sc h1, RL_map_sc us r h2]
theorem flat_bytes (l : By) : flat (l.map u8A) = (l.map fun b => (.int .u8 b.toNat : Value)).map .sc := by
  induction l with
  | nil => rfl
  | cons b l ih => simp only [List.map_cons, flat, ih]; rfl

theorem om_conv_bytes {s t e : TypeId} {x : Operand} {l : By} (hs : P.underlying s = some (.slice e)) (he : P.underlying e = some (.int .u8)) (ht : P.underlying t = some .string) (hx : get L x = some (bytesA l)) (hk : K (.sc (.string (strOf l))) σ) :
    OM P N ⟨d, .convert s t x, ty, ps, af, g⟩ L σ K E :=
  om_val _ (fun A w a _ ho => by
    have h1 := ho x (by simp [Op.operands]) _ hx
    simp only [bytesA, slA, R] at h1
    obtain ⟨p, c, h1, _, _, h4⟩ := h1
    refine ⟨_, ?_, R_sc_mk _⟩
    simp only [execOp, h1, Sem.run_bind, run_convert_bytes_string w s t e p _ c hs he ht, List.length_map]
    rcases h4 with h4 | ⟨b, o, rfl, _, h4⟩
    · have : l = [] := by simpa using h4
      subst this
      cases p with
      | none => rfl
      | some q =>
        rw [List.length_nil, run_bytesToString w q 0 c [] (by simp [loadCells, loadCellsFrom])]
        rfl
    · obtain ⟨vs, h5, h6, h7⟩ := RE_cells _ _ h4
      rw [flat_bytes] at h5
      have := RL_map_sc _ _ h5
      subst this
      have hload := run_loadCells_list (P := P) w ⟨b, o, none⟩ _ (fun j v hv => by rw [add_none]; exact h7 j v hv)
      simp only [List.length_map] at hload
      rw [run_bytesToString w ⟨b, o, none⟩ l.length c (l.map fun b => (b.toNat : Int)) (by rw [hload]; simp), foldl_push]
      simp [strOf]) hk

/-! ### Pointers held against nil -/
def nilP : AV → Option Bool
  | .sc (.pointer none) => some true
  | .sc (.pointer (some _)) => some false
  | .ref _ _ => some false
  | _ => none
theorem nilP_val {A : Nat → Prop} {w : World} {x : AV} {b : Bool} {v : Value} (h : nilP x = some b) (hr : R A w x v) : (b = true ∧ v = .pointer none) ∨ (b = false ∧ ∃ q, v = .pointer (some q)) := by
  cases x with
  | sc u =>
    have := R_sc hr
    subst this
    cases v <;> simp [nilP] at h
    rename_i p
    cases p
    · exact .inl ⟨by simpa using h.symm, rfl⟩
    · exact .inr ⟨by simpa using h.symm, _, rfl⟩
  | ref y o =>
    simp only [R] at hr
    obtain ⟨q, o', u, rfl, _⟩ := hr
    simp [nilP] at h
    exact .inr ⟨h, _, rfl⟩
  | _ => simp [nilP] at h
theorem equalIn_ptr (n : Nat) {t el : TypeId} (hu : P.underlying t = some (.pointer el)) (p : Option Addr) (w : World) : (Op.equalIn (n + 1) t (.pointer p) (.pointer none)).run P w = .ok p.isNone w := by
  cases p <;> simp [Op.equalIn, underlying, hu]
theorem run_eq_ptr {t el : TypeId} (hu : P.underlying t = some (.pointer el)) (p : Option Addr) (w : World) : (Op.equal t (.pointer p) (.pointer none)).run P w = .ok p.isNone w := by
  unfold Op.equal Op.maxDepth
  exact equalIn_ptr 9999 hu p w
theorem eqGuard_ptr (op : BinOp) (t : TypeId) (x y : Operand) (p q : Option Addr) (w : World) : (eqGuard op t x y (.pointer p) (.pointer q)).run P w = .ok () w := by cases op <;> rfl
theorem om_nilp {t t' el : TypeId} {op : BinOp} {x : Operand} {u : AV} {b : Bool} (hu : P.underlying t = some (.pointer el)) (hop : op = .eql ∨ op = .neq) (hx : get L x = some u) (hb : nilP u = some b) (hk : K (.sc (.bool (match op with | .eql => b | _ => !b))) σ) :
    OM P N ⟨d, .binOp op t x (.const (.pointer none)) t', ty, ps, af, g⟩ L σ K E :=
  om_val _ (fun A w a _ ho => by
    have h1 := ho x (by simp [Op.operands]) _ hx
    refine ⟨_, ?_, R_sc_mk _⟩
    have hv : ∃ p : Option Addr, a.eval x = .pointer p ∧ b = p.isNone := by
      rcases nilP_val hb h1 with ⟨rfl, hv⟩ | ⟨rfl, q, hv⟩
      · exact ⟨none, hv, rfl⟩
      · exact ⟨some q, hv, rfl⟩
    obtain ⟨p, hv, rfl⟩ := hv
    simp only [execOp, hv]
    rw [show a.eval (.const (.pointer none)) = .pointer none from rfl]
    have e1 : binOp .eql t (.pointer p) (.pointer none) = (do pure (.bool (← Op.equal t (.pointer p) (.pointer none)))) := by unfold binOp; rfl
    have e2 : binOp .neq t (.pointer p) (.pointer none) = (do pure (.bool (!(← Op.equal t (.pointer p) (.pointer none))))) := by unfold binOp; rfl
    rcases hop with rfl | rfl
    · simp only [e1, Sem.run_bind, eqGuard_ptr, Result.andThen_ok, run_eq_ptr hu, Sem.run_pure]
    · simp only [e2, Sem.run_bind, eqGuard_ptr, Result.andThen_ok, run_eq_ptr hu, Sem.run_pure]) hk

/-- A call whose answer is known, and what becomes of the owned blocks. -/
theorem om_call_to {τ : Store} {f : FuncId} {xs : Array Operand} {ts : Array TypeId} {args : List AV} {y : AV} (hf : IsFn P f) (hx : getL L xs.toList = some args) (h : CM P f args σ (Ret y τ)) (hk : K y τ) :
    OM P N ⟨d, .call ⟨.value (.func f), xs, ts⟩, ty, ps, af, g⟩ L σ K E := om_call hf hx (h.mono (by rintro e s ⟨rfl, rfl⟩; exact hk))

end Go.Gw
