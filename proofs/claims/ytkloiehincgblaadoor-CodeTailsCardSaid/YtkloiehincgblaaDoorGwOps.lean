/- The operations: what is asked of the slots and of the owned blocks, what comes of it. -/
import Derived.Test.YtkloiehincgblaaDoorGwWp
import Derived.WalkKit
namespace Go.Gw
variable {P : Program} {N : Nat} {L : Slots} {σ : Store} {K : AV → Store → Prop} {E : List PanicEntry → Store → Prop}
variable {d : Option Tmp} {ty : TypeId} {ps : String} {af : Array Edge} {g : Option (Nat × Bool)}

/-- An operation with a value. -/
theorem om_gen {o : Oper} (h : ∀ (A : Nat → Prop) (w : World) (a : Act), Good A w σ → a.tmps.size = N → (∀ x ∈ o.op.operands, ∀ y, get L x = some y → R A w y (a.eval x)) →
    ∃ A' w' v y σ', (execOp a.eval o).run P w = .ok (.value v) w' ∧ Ext A w A' w' ∧ Good A' w' σ' ∧ R A' w' y v ∧ K y σ') : OM P N o L σ K E := by
  intro A w a next Q hg hn ho h1 _
  obtain ⟨A', w', v, y, σ', hr, he, hg', hry, hk⟩ := h A w a hg hn ho
  unfold Oper.wp
  rw [hr, Oper.upon_value]
  exact h1 A' w' v y σ' he hg' hry hk

/-- An operation without one. -/
theorem om_skip {o : Oper} (h : ∀ (A : Nat → Prop) (w : World) (a : Act), Good A w σ → a.tmps.size = N → (∀ x ∈ o.op.operands, ∀ y, get L x = some y → R A w y (a.eval x)) →
    ∃ A' w' σ', (execOp a.eval o).run P w = .ok .skip w' ∧ Ext A w A' w' ∧ Good A' w' σ' ∧ K (.sc undef) σ') : OM P N o L σ K E := by
  intro A w a next Q hg hn ho h1 _
  obtain ⟨A', w', σ', hr, he, hg', hk⟩ := h A w a hg hn ho
  unfold Oper.wp
  rw [hr, Oper.upon_skip]
  exact h1 A' w' undef _ σ' he hg' (by simp only [R]) hk

/-- An operation that leaves the world alone. -/
theorem om_val {o : Oper} (y : AV) (h : ∀ (A : Nat → Prop) (w : World) (a : Act), Good A w σ → (∀ x ∈ o.op.operands, ∀ y, get L x = some y → R A w y (a.eval x)) →
    ∃ v, (execOp a.eval o).run P w = .ok (.value v) w ∧ R A w y v) (hk : K y σ) : OM P N o L σ K E :=
  om_gen fun A w a hg _ ho => let ⟨v, hr, hy⟩ := h A w a hg ho; ⟨A, w, v, y, σ, hr, Ext.refl A w, hg, hy, hk⟩

theorem R_sc {A : Nat → Prop} {w : World} {v u : Value} (h : R A w (.sc v) u) : u = v := by simpa only [R] using h
theorem R_sc_mk {A : Nat → Prop} {w : World} (v : Value) : R A w (.sc v) v := by simp only [R]

theorem om_move {x : Operand} {y : AV} (hx : get L x = some y) (hk : K y σ) : OM P N ⟨d, .move x, ty, ps, af, g⟩ L σ K E :=
  om_val y (fun _ _ a _ ho => ⟨a.eval x, rfl, ho x (by simp [Op.operands]) y hx⟩) hk
theorem om_assign {x : Operand} {y : AV} (hx : get L x = some y) (hk : K y σ) : OM P N ⟨d, .assign x, ty, ps, af, g⟩ L σ K E :=
  om_val y (fun _ _ a _ ho => ⟨a.eval x, rfl, ho x (by simp [Op.operands]) y hx⟩) hk

theorem om_pick {c x y : Operand} {b : Bool} {u v : AV} (hc : get L c = some (.sc (.bool b))) (hx : get L x = some u) (hy : get L y = some v) (hk : K (if b then u else v) σ) : OM P N ⟨d, .pick c x y, ty, ps, af, g⟩ L σ K E :=
  om_val _ (fun _ _ a _ ho => by
    have h1 := R_sc (ho c (by simp [Op.operands]) _ hc)
    refine ⟨if b then a.eval x else a.eval y, ?_, ?_⟩
    · simp only [execOp, h1, asBool]; rfl
    · cases b
      · exact ho y (by simp [Op.operands]) _ hy
      · exact ho x (by simp [Op.operands]) _ hx) hk

theorem om_pick_t {c x y : Operand} {u : AV} (hc : get L c = some (.sc (.bool true))) (hx : get L x = some u) (hk : K u σ) : OM P N ⟨d, .pick c x y, ty, ps, af, g⟩ L σ K E :=
  om_val _ (fun _ _ a _ ho => by
    have h1 := R_sc (ho c (by simp [Op.operands]) _ hc)
    exact ⟨a.eval x, by simp only [execOp, h1, asBool]; rfl, ho x (by simp [Op.operands]) _ hx⟩) hk
theorem om_pick_f {c x y : Operand} {v : AV} (hc : get L c = some (.sc (.bool false))) (hy : get L y = some v) (hk : K v σ) : OM P N ⟨d, .pick c x y, ty, ps, af, g⟩ L σ K E :=
  om_val _ (fun _ _ a _ ho => by
    have h1 := R_sc (ho c (by simp [Op.operands]) _ hc)
    exact ⟨a.eval y, by simp only [execOp, h1, asBool]; rfl, ho y (by simp [Op.operands]) _ hy⟩) hk

/-! ### Numbers, strings -/
def scBin (op : BinOp) : Value → Value → Option Value
  | .int k a, .int k' b => match op with
    | .shl => cond (decide (b < 0)) none (some (.int k (k.wrap (a * 2 ^ min b.toNat k.bits))))
    | .shr => cond (decide (b < 0)) none (some (.int k (a.fdiv (2 ^ min b.toNat k.bits))))
    | _ => cond (decide (k = k')) (match op with
      | .add => some (.int k (k.wrap (a + b)))
      | .sub => some (.int k (k.wrap (a - b)))
      | .mul => some (.int k (k.wrap (a * b)))
      | .eql => some (.bool (decide (a = b)))
      | .neq => some (.bool (!decide (a = b)))
      | .lss => some (.bool (decide (a < b)))
      | .leq => some (.bool (decide (a ≤ b)))
      | .gtr => some (.bool (decide (b < a)))
      | .geq => some (.bool (decide (b ≤ a)))
      | .and => some (.int k (Go.bits .and k a b))
      | .or => some (.int k (Go.bits .or k a b))
      | .xor => some (.int k (Go.bits .xor k a b))
      | _ => none) none
  | .string a, .string b => match op with
    | .eql => some (.bool (decide (a = b)))
    | .neq => some (.bool (!decide (a = b)))
    | .lss => some (.bool (Op.bytesLess a.toList b.toList))
    | _ => none
  | _, _ => none

theorem bytes_beq (a b : ByteArray) : (a.toList == b.toList) = decide (a = b) := by
  rw [Bool.eq_iff_iff, beq_iff_eq, decide_eq_true_eq, ByteArray.toList_eq, ByteArray.toList_eq]
  exact ⟨fun h => ByteArray.ext (Array.toList_inj.mp h), fun h => by rw [h]⟩

theorem eqGuard_int (op : BinOp) (t : TypeId) (x y : Operand) (k k' : IntKind) (a b : Int) (w : World) : (eqGuard op t x y (.int k a) (.int k' b)).run P w = .ok () w := by
  unfold eqGuard; split <;> rfl
theorem eqGuard_str (op : BinOp) (t : TypeId) (x y : Operand) (a b : ByteArray) (w : World) : (eqGuard op t x y (.string a) (.string b)).run P w = .ok () w := by
  unfold eqGuard; split <;> rfl
theorem eqGuard_bool (op : BinOp) (t : TypeId) (x y : Operand) (a b : Bool) (w : World) : (eqGuard op t x y (.bool a) (.bool b)).run P w = .ok () w := by
  unfold eqGuard; split <;> rfl

theorem scBin_run {op : BinOp} {u v r : Value} (h : scBin op u v = some r) (t : TypeId) (x y : Operand) (w : World) :
    (do eqGuard op t x y u v; binOp op t u v : Sem Value).run P w = .ok r w := by
  cases u <;> cases v <;> try (simp [scBin] at h; done)
  · rename_i k a k' b
    rw [Sem.run_bind, eqGuard_int, Result.andThen_ok]
    by_cases hb : b < 0
    · by_cases hk : k = k'
      · subst hk
        cases op <;> simp [scBin, hb] at h <;> subst h <;> simp [binOp, Op.intArith, Op.intCmp, Op.intBits, Go.bits] <;> (rw [Bool.eq_iff_iff]; simp)
      · cases op <;> simp [scBin, hk, hb] at h
    · by_cases hk : k = k'
      · subst hk
        cases op <;> simp [scBin, hb] at h <;> subst h <;> simp [binOp, Op.intArith, Op.intCmp, Op.intBits, Op.shift, Go.bits, hb] <;> (rw [Bool.eq_iff_iff]; simp)
      · cases op <;> simp [scBin, hk, hb] at h <;> subst h <;> simp [binOp, Op.shift, hb]
  · rename_i a b
    rw [Sem.run_bind, eqGuard_str, Result.andThen_ok]
    cases op <;> simp [scBin] at h <;> subst h <;> simp [binOp, Op.stringOp, bytes_beq]


theorem om_bin {op : BinOp} {t t' : TypeId} {x y : Operand} {u v r : Value} (hx : get L x = some (.sc u)) (hy : get L y = some (.sc v)) (hr : scBin op u v = some r) (hk : K (.sc r) σ) :
    OM P N ⟨d, .binOp op t x y t', ty, ps, af, g⟩ L σ K E :=
  om_val _ (fun _ w a _ ho => by
    have h1 := R_sc (ho x (by simp [Op.operands]) _ hx)
    have h2 := R_sc (ho y (by simp [Op.operands]) _ hy)
    refine ⟨r, ?_, R_sc_mk r⟩
    have := scBin_run (P := P) hr t x y w
    simp only [execOp, h1, h2]
    rw [Sem.run_bind, this]; rfl) hk

theorem om_cat {t t' : TypeId} {x y : Operand} {u v : ByteArray} (hx : get L x = some (.sc (.string u))) (hy : get L y = some (.sc (.string v))) (hr : u.size + v.size ≤ maxC) (hk : K (.sc (.string (u ++ v))) σ) :
    OM P N ⟨d, .binOp .add t x y t', ty, ps, af, g⟩ L σ K E :=
  om_val _ (fun _ w a _ ho => by
    have h1 := R_sc (ho x (by simp [Op.operands]) _ hx)
    have h2 := R_sc (ho y (by simp [Op.operands]) _ hy)
    refine ⟨_, ?_, R_sc_mk _⟩
    have hm : ¬ (((u.size + v.size : Nat) : Int) > IntKind.i64.max) := by
      have : IntKind.i64.max = 9223372036854775807 := rfl
      unfold maxC at hr
      omega
    simp only [execOp, h1, h2]
    simp only [Sem.run_bind, eqGuard_str, Result.andThen_ok, binOp, Op.stringOp, if_neg hm, Sem.run_pure]) hk

theorem om_rem {t t' : TypeId} {k : IntKind} {x y : Operand} {u v : Int} (hx : get L x = some (.sc (.int k u))) (hy : get L y = some (.sc (.int k v))) (hr : v ≠ 0) (hk : K (.sc (.int k (u.tmod v))) σ) :
    OM P N ⟨d, .binOp .rem t x y t', ty, ps, af, g⟩ L σ K E :=
  om_val _ (fun _ w a _ ho => by
    have h1 := R_sc (ho x (by simp [Op.operands]) _ hx)
    have h2 := R_sc (ho y (by simp [Op.operands]) _ hy)
    refine ⟨_, ?_, R_sc_mk _⟩
    simp only [execOp, h1, h2]
    simp [eqGuard_int, binOp, Op.intDiv, hr]) hk
theorem om_quo {t t' : TypeId} {k : IntKind} {x y : Operand} {u v : Int} (hx : get L x = some (.sc (.int k u))) (hy : get L y = some (.sc (.int k v))) (hr : v ≠ 0) (hk : K (.sc (.int k (k.wrap (u.tdiv v)))) σ) :
    OM P N ⟨d, .binOp .quo t x y t', ty, ps, af, g⟩ L σ K E :=
  om_val _ (fun _ w a _ ho => by
    have h1 := R_sc (ho x (by simp [Op.operands]) _ hx)
    have h2 := R_sc (ho y (by simp [Op.operands]) _ hy)
    refine ⟨_, ?_, R_sc_mk _⟩
    simp only [execOp, h1, h2]
    simp [eqGuard_int, binOp, Op.intDiv, hr]) hk

theorem om_not {t : TypeId} {x : Operand} {b : Bool} (hx : get L x = some (.sc (.bool b))) (hk : K (.sc (.bool (!b))) σ) : OM P N ⟨d, .unOp .not t x, ty, ps, af, g⟩ L σ K E :=
  om_val _ (fun _ w a _ ho => by
    have h1 := R_sc (ho x (by simp [Op.operands]) _ hx)
    exact ⟨.bool (!b), by simp [execOp, h1, Op.unary], R_sc_mk _⟩) hk
theorem om_neg {t : TypeId} {x : Operand} {k : IntKind} {n : Int} (hx : get L x = some (.sc (.int k n))) (hk : K (.sc (.int k (k.wrap (0 - n)))) σ) : OM P N ⟨d, .unOp .neg t x, ty, ps, af, g⟩ L σ K E :=
  om_val _ (fun _ w a _ ho => by
    have h1 := R_sc (ho x (by simp [Op.operands]) _ hx)
    exact ⟨_, by simp [execOp, h1, Op.unary, Op.intArith], R_sc_mk _⟩) hk

theorem equalIn_bool (n : Nat) {t : TypeId} (hu : P.underlying t = some .bool) (u v : Bool) (w : World) : (Op.equalIn (n + 1) t (.bool u) (.bool v)).run P w = .ok (u == v) w := by
  simp [Op.equalIn, underlying, hu]
theorem run_equal_bool {t : TypeId} (hu : P.underlying t = some .bool) (u v : Bool) (w : World) : (Op.equal t (.bool u) (.bool v)).run P w = .ok (u == v) w := by
  unfold Op.equal Op.maxDepth
  exact equalIn_bool 9999 hu u v w
theorem binOp_eql_bool (t : TypeId) (u v : Bool) : binOp .eql t (.bool u) (.bool v) = (do pure (.bool (← Op.equal t (.bool u) (.bool v)))) := by unfold binOp; rfl
theorem binOp_neq_bool (t : TypeId) (u v : Bool) : binOp .neq t (.bool u) (.bool v) = (do pure (.bool (!(← Op.equal t (.bool u) (.bool v))))) := by unfold binOp; rfl
theorem om_eqb {op : BinOp} {t t' : TypeId} {x y : Operand} {u v : Bool} (hu : P.underlying t = some .bool) (hx : get L x = some (.sc (.bool u))) (hy : get L y = some (.sc (.bool v)))
    (hop : op = .eql ∨ op = .neq) (hk : K (.sc (.bool (match op with | .eql => u == v | _ => !(u == v)))) σ) :
    OM P N ⟨d, .binOp op t x y t', ty, ps, af, g⟩ L σ K E :=
  om_val _ (fun _ w a _ ho => by
    have h1 := R_sc (ho x (by simp [Op.operands]) _ hx)
    have h2 := R_sc (ho y (by simp [Op.operands]) _ hy)
    refine ⟨_, ?_, R_sc_mk _⟩
    simp only [execOp, h1, h2]
    have he := run_equal_bool (P := P) hu u v w
    rcases hop with rfl | rfl
    · rw [binOp_eql_bool]
      simp only [Sem.run_bind, eqGuard_bool, Result.andThen_ok, he, Sem.run_pure]
    · rw [binOp_neq_bool]
      simp only [Sem.run_bind, eqGuard_bool, Result.andThen_ok, he, Sem.run_pure]) hk

theorem om_conv {s t : TypeId} {x : Operand} {k k' : IntKind} {n : Int} {q : TypeDesc} (hs : P.underlying s = some q) (ht : P.underlying t = some (.int k)) (hx : get L x = some (.sc (.int k' n))) (hk : K (.sc (.int k (k.wrap n))) σ) :
    OM P N ⟨d, .convert s t x, ty, ps, af, g⟩ L σ K E :=
  om_val _ (fun _ w a _ ho => by
    have h1 := R_sc (ho x (by simp [Op.operands]) _ hx)
    exact ⟨_, by simp [execOp, h1, convert, underlying, hs, ht, Conv.intToInt], R_sc_mk _⟩) hk
theorem om_conv_str {s t : TypeId} {x : Operand} {b : ByteArray} {q : TypeDesc} (hs : P.underlying s = some q) (ht : P.underlying t = some .string) (hx : get L x = some (.sc (.string b))) (hk : K (.sc (.string b)) σ) :
    OM P N ⟨d, .convert s t x, ty, ps, af, g⟩ L σ K E :=
  om_val _ (fun _ w a _ ho => by
    have h1 := R_sc (ho x (by simp [Op.operands]) _ hx)
    exact ⟨_, by simp [execOp, h1, convert, underlying, hs, ht], R_sc_mk _⟩) hk

/-! ### Lengths -/
theorem om_len_str {t : TypeId} {x : Operand} {s : ByteArray} (hu : P.underlying t = some .string) (hx : get L x = some (.sc (.string s))) (hk : K (.sc (.int .i64 s.size)) σ) :
    OM P N ⟨d, .call ⟨.builtin .len, #[x], #[t]⟩, ty, ps, af, g⟩ L σ K E :=
  om_val _ (fun _ w a _ ho => by
    have h1 := R_sc (ho x (by simp [Op.operands, Call.operands]) _ hx)
    exact ⟨_, by simp [execOp, resolve, invoke, builtin, Builtin.len_, h1, underlying, hu, goInt], R_sc_mk _⟩) hk
theorem om_len_sl {t el : TypeId} {x : Operand} {p : Option Addr} {n c : Nat} (hu : P.underlying t = some (.slice el)) (hx : get L x = some (.sc (.slice p n c))) (hk : K (.sc (.int .i64 n)) σ) :
    OM P N ⟨d, .call ⟨.builtin .len, #[x], #[t]⟩, ty, ps, af, g⟩ L σ K E :=
  om_val _ (fun _ w a _ ho => by
    have h1 := R_sc (ho x (by simp [Op.operands, Call.operands]) _ hx)
    exact ⟨_, by simp [execOp, resolve, invoke, builtin, Builtin.len_, h1, underlying, hu, goInt], R_sc_mk _⟩) hk
theorem om_len_slv {t el : TypeId} {x : Operand} {e : Nat} {xs : List AV} (hu : P.underlying t = some (.slice el)) (hx : get L x = some (.slv e xs)) (hk : xs.length ≤ maxC → K (.sc (.int .i64 xs.length)) σ) :
    OM P N ⟨d, .call ⟨.builtin .len, #[x], #[t]⟩, ty, ps, af, g⟩ L σ K E :=
  om_gen (fun A w a hg _ ho => by
    have h1 := ho x (by simp [Op.operands, Call.operands]) _ hx
    simp only [R] at h1
    obtain ⟨p, c, h1, h2, h3, _⟩ := h1
    exact ⟨A, w, .int .i64 xs.length, _, σ, by simp [execOp, resolve, invoke, builtin, Builtin.len_, h1, underlying, hu, goInt], Ext.refl A w, hg, R_sc_mk _, hk (Nat.le_trans h2 h3)⟩)

/-! ### Strings by their places -/
def byteAt (s : ByteArray) (i : Nat) : Int := ((s.data.toList.getD i 0).toNat : Int)

theorem om_index_str {t : TypeId} {x i : Operand} {s : ByteArray} {k : IntKind} {n : Int} (hu : P.underlying t = some .string) (hx : get L x = some (.sc (.string s))) (hi : get L i = some (.sc (.int k n)))
    (h0 : 0 ≤ n) (h1 : n < s.size) (hk : K (.sc (.int .u8 (byteAt s n.toNat))) σ) : OM P N ⟨d, .index t x i, ty, ps, af, g⟩ L σ K E :=
  om_val _ (fun _ w a _ ho => by
    have e1 := R_sc (ho x (by simp [Op.operands]) _ hx)
    have e2 := R_sc (ho i (by simp [Op.operands]) _ hi)
    refine ⟨_, ?_, R_sc_mk _⟩
    have hlt : n.toNat < s.size := by omega
    have hd : n.toNat < s.data.toList.length := by simpa using hlt
    have hb : s[n.toNat]? = some (s[n.toNat]'hlt) := getElem?_pos s n.toNat hlt
    have hv : byteAt s n.toNat = ((s[n.toNat]'hlt).toNat : Int) := by
      unfold byteAt
      rw [List.getD_eq_getElem?_getD, List.getElem?_eq_getElem hd]
      rfl
    simp [execOp, e1, e2, Instr.index, asIntOf, underlying, hu, h0, hb, hv]) hk

def getB (L : Slots) (dflt : Int) : Option Operand → Option Int
  | none => some dflt
  | some o => match get L o with
    | some (.sc (.int _ n)) => some n
    | _ => none

theorem getB_some {dflt l : Int} {o : Operand} (h : getB L dflt (some o) = some l) : ∃ k, get L o = some (.sc (.int k l)) := by
  simp only [getB] at h
  split at h
  · rename_i k n e; cases h; exact ⟨k, e⟩
  · cases h

theorem run_sliceBound {k : IntKind} {i : Int} {y : Nat} (c : BoundsCode) (h0 : 0 ≤ i) (h1 : i ≤ y) (w : World) : (Instr.sliceBound (.int k i) y c).run P w = .ok i.toNat w := by
  simp [Instr.sliceBound, asIntOf, h0, h1]

theorem om_slice_str {t : TypeId} {x : Operand} {lo hi : Option Operand} {s : ByteArray} {l h : Int} (hu : P.underlying t = some .string) (hx : get L x = some (.sc (.string s)))
    (hl : getB L 0 lo = some l) (hh : getB L s.size hi = some h) (h0 : 0 ≤ l) (h1 : l ≤ h) (h2 : h ≤ s.size) (hk : K (.sc (.string (s.extract l.toNat h.toNat))) σ) :
    OM P N ⟨d, .slice t x lo hi none, ty, ps, af, g⟩ L σ K E :=
  om_val _ (fun _ w a _ ho => by
    have e1 := R_sc (ho x (by simp [Op.operands]) _ hx)
    refine ⟨_, ?_, R_sc_mk _⟩
    have hb : (Instr.sliceBounds false s.size s.size (lo.map a.eval) (hi.map a.eval) none).run P w = .ok (l.toNat, h.toNat, s.size) w := by
      have hH : ∀ v, hi.map a.eval = some v → (Instr.sliceBound v s.size .sliceAlen).run P w = .ok h.toNat w := by
        intro v hv
        cases hi with
        | none => cases hv
        | some o =>
          cases hv
          obtain ⟨k, hk'⟩ := getB_some hh
          rw [R_sc (ho o (by simp [Op.operands]) _ hk')]
          exact run_sliceBound _ (by omega) h2 w
      have hL : ∀ v, lo.map a.eval = some v → (Instr.sliceBound v h.toNat .sliceB).run P w = .ok l.toNat w := by
        intro v hv
        cases lo with
        | none => cases hv
        | some o =>
          cases hv
          obtain ⟨k, hk'⟩ := getB_some hl
          rw [R_sc (ho o (by simp [Op.operands]) _ hk')]
          exact run_sliceBound _ h0 (by omega) w
      unfold Instr.sliceBounds
      cases hi with
      | none =>
        simp only [getB, Option.some.injEq] at hh
        subst hh
        cases lo with
        | none => simp only [getB, Option.some.injEq] at hl; subst hl; simp
        | some o => have := hL _ rfl; simp at this ⊢; simp [this]
      | some p =>
        have hp := hH _ rfl
        cases lo with
        | none => simp only [getB, Option.some.injEq] at hl; subst hl; simp [hp]
        | some o => have := hL _ rfl; simp [hp, this]
    simp only [execOp, e1, Instr.sliceAt, Sem.run_bind]
    simp [underlying, hu, Instr.slice, hb]) hk

end Go.Gw
