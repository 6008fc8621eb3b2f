/- What is written: numbers as bytes, as plain functions. -/
import Derived.Test.YtkloiehincgblaaDoorGwAcc
import Derived.Laws.Closers25b
namespace Go.Gw
variable {P : Program} {N : Nat} {L : Slots} {σ τ : Store} {K : AV → Store → Prop} {E : List PanicEntry → Store → Prop}
variable {d : Option Tmp} {ty : TypeId} {ps : String} {af : Array Edge} {g : Option (Nat × Bool)}

def putX (n : Int) : Int := Go.bits .xor .u64 (IntKind.u64.wrap (IntKind.u64.wrap n * 2 ^ min (1 : Int).toNat IntKind.u64.bits)) (IntKind.u64.wrap (n.fdiv (2 ^ min (63 : Int).toNat IntKind.i64.bits)))
def putHi (x : Int) : UInt8 := UInt8.ofNat (Go.bits .or .u8 (IntKind.u8.wrap x) 128).toNat
def putLo (x : Int) : UInt8 := UInt8.ofNat (IntKind.u8.wrap x).toNat
def putS (x : Int) : Int := x.fdiv (2 ^ min (7 : Int).toNat IntKind.u64.bits)
def putF : Nat → Int → By
  | 0, x => [putLo x]
  | k + 1, x => if 127 < x then putHi x :: putF k (putS x) else [putLo x]
def putL (n : Int) : By := putF 9 (putX n)

theorem u8A_of {z : Int} (h : 0 ≤ z ∧ z ≤ 255) : u8A (UInt8.ofNat z.toNat) = .sc (.int .u8 z) := by
  have : ((UInt8.ofNat z.toNat).toNat : Int) = z := by simp; omega
  unfold u8A
  rw [this]
theorem u8A_hi (x : Int) : u8A (putHi x) = .sc (.int .u8 (Go.bits .or .u8 (IntKind.u8.wrap x) 128)) := u8A_of (by
  have := bits_within .or .u8 (IntKind.u8.wrap x) 128
  simpa [IntKind.min, IntKind.max, IntKind.signed, IntKind.bits] using this)
theorem u8A_lo (x : Int) : u8A (putLo x) = .sc (.int .u8 (IntKind.u8.wrap x)) := u8A_of (by
  have h : IntKind.u8.wrap x = x % 256 := by simp [IntKind.wrap, IntKind.bits, IntKind.signed]
  rw [h]; omega)
theorem putX_range (n : Int) : 0 ≤ putX n ∧ putX n < 128 ^ 10 := by
  have := bits_within .xor .u64 (IntKind.u64.wrap (IntKind.u64.wrap n * 2 ^ min (1 : Int).toNat IntKind.u64.bits)) (IntKind.u64.wrap (n.fdiv (2 ^ min (63 : Int).toNat IntKind.i64.bits)))
  have h : 0 ≤ putX n ∧ putX n ≤ 18446744073709551615 := by simpa [putX, IntKind.min, IntKind.max, IntKind.signed, IntKind.bits] using this
  exact ⟨h.1, by omega⟩
theorem putS_eq (x : Int) : putS x = x / 128 := by
  unfold putS
  rw [Int.fdiv_eq_ediv_of_nonneg _ (by decide)]
  rfl
theorem putF_one {k : Nat} {x : Int} (h : x ≤ 127) : putF k x = [putLo x] := by
  cases k with
  | zero => rfl
  | succ k => rw [putF, if_neg (by omega)]
theorem putF_more {k : Nat} {x : Int} (h : 127 < x) (hk : x < 128 ^ (k + 1)) : ∃ j, k = j + 1 ∧ putF k x = putHi x :: putF j (putS x) ∧ 0 ≤ putS x ∧ putS x < 128 ^ (j + 1) := by
  cases k with
  | zero => omega
  | succ j =>
    refine ⟨j, rfl, by rw [putF, if_pos h], by rw [putS_eq]; omega, ?_⟩
    rw [putS_eq]
    have : (128 : Int) ^ (j + 1 + 1) = 128 ^ (j + 1) * 128 := Int.pow_succ _ _
    omega
theorem putF_len : ∀ (k : Nat) (x : Int), (putF k x).length ≤ k + 1
  | 0, x => by simp [putF]
  | k + 1, x => by
    have := putF_len k (putS x)
    rw [putF]
    split
    · simp; omega
    · simp
theorem putL_len (n : Int) : (putL n).length ≤ 10 := putF_len 9 _

/-- It answers with a growing slice, and leaves the rest as it was. -/
def RetAcc {α : Type} (σ : Store) (el e : Nat) (f : α → AV) (xs : List α) : AEnd → Store → Prop := fun r τ => ∃ a, accOk σ a xs.length ∧ r = .ret (accU a xs.length) ∧ τ = accS σ a el e f xs

theorem om_call_acc {α : Type} {f : FuncId} {xs : Array Operand} {ts : Array TypeId} {args : List AV} {el e : Nat} {h : α → AV} {ys : List α} {τ : Store} (hf : IsFn P f) (hx : getL L xs.toList = some args) (hc : CM P f args τ (RetAcc σ el e h ys))
    (hk : ∀ a, accOk σ a ys.length → K (accU a ys.length) (accS σ a el e h ys)) : OM P N ⟨d, .call ⟨.value (.func f), xs, ts⟩, ty, ps, af, g⟩ L τ K E :=
  om_call hf hx (hc.mono (by rintro r s ⟨a, h1, rfl, rfl⟩; exact hk a h1))

theorem fin_acc {α : Type} {fn : Func} {a : Acc} {el e : Nat} {f : α → AV} {xs : List α} {τ : Store} (h : ResM P fn N L τ (accU a xs.length)) (hok : accOk σ a xs.length) (hle : Less (accS σ a el e f xs) τ) :
    ∃ z τ', ResM P fn N L τ z ∧ Less τ' τ ∧ RetAcc σ el e f xs (.ret z) τ' := ⟨_, _, h, hle, a, hok, rfl, rfl⟩

def putsL (ns : List Int) : By := ns.flatMap putL
theorem putsL_drop {ns : List Int} {j : Nat} (h : j < ns.length) : putsL (ns.drop j) = putL ns[j] ++ putsL (ns.drop (j + 1)) := by
  rw [List.drop_eq_getElem_cons h]; rfl
def putT (s : ByteArray) : By := putL s.size ++ s.data.toList

theorem str_flat (s : ByteArray) : strCells s = flat (s.data.toList.map u8A) := by
  unfold strCells
  generalize s.data.toList = l
  induction l with
  | nil => rfl
  | cons b l ih => simp only [List.map_cons, flat, ih]; rfl

theorem om_acc_str {t t2 el bytes : Nat} {x y : Operand} {a : Acc} {xs : By} {s : ByteArray} (ha : Ap P t el 1 bytes) (hq : P.underlying t2 = some .string)
    (hx : get L x = some (accU a xs.length)) (hy : get L y = some (.sc (.string s))) (hs : τ = accS σ a el 1 u8A xs) (hok : accOk σ a xs.length) (hb : (xs.length + s.size) * bytes ≤ 140737488355328) (hb' : xs.length + s.size ≤ 9223372036854775807)
    (hk : ∀ a', accOk σ a' (xs ++ s.data.toList).length → K (accU a' (xs ++ s.data.toList).length) (accS σ a' el 1 u8A (xs ++ s.data.toList))) :
    OM P N ⟨d, .call ⟨.builtin .append, #[x, y], #[t, t2]⟩, ty, ps, af, g⟩ L τ K E := by
  subst hs
  have hsz : s.data.toList.length = s.size := by rw [Array.length_toList]; rfl
  have hsrc : ∀ σ, Src P σ 1 (.sc (.string s)) s.size (flat (s.data.toList.map u8A)) := fun σ => by rw [← str_flat]; exact src_str s
  obtain _ | ⟨k, c⟩ := a
  · have hxs : xs = [] := List.eq_nil_of_length_eq_zero hok
    subst hxs
    refine om_app (n := 0) (c := 0) (cs := []) ha (.inr hq) hx hy .nil (hsrc _) (u8A_enc.all _) (by simpa only [List.length_nil] using hb) (by unfold maxC; simp only [List.length_nil] at hb'; omega) (fun hm _ => ?_) (fun k' c' h1 h2 h3 h4 => ?_)
    · have hys : s.data.toList = [] := List.eq_nil_of_length_eq_zero (hsz.trans hm)
      have := hk none (by rw [hys]; rfl)
      rw [hys] at this
      exact this
    · have := hk (some (k', c')) ⟨h1, by rw [List.nil_append, hsz]; omega, by rcases h3 with h3 | h3 <;> unfold maxC at * <;> omega⟩
      rw [List.nil_append, hsz] at this
      rw [Nat.zero_add]
      exact this
  · obtain ⟨h1, h2, h3⟩ := hok
    have hcs : accS σ (some (k, c)) el 1 u8A xs k = some (.cells el (c * 1) (flat (xs.map u8A))) := Store.set_same _ _ _
    refine om_app ha (.inr hq) hx hy (.own hcs (u8A_enc.len xs) h2) (hsrc _) (u8A_enc.all _) hb hb' (fun _ hu => by simp [accU] at hu) (fun k' c' h4 h5 h6 h7 => ?_)
    have hg : gone (accS σ (some (k, c)) el 1 u8A xs) (accU (some (k, c)) xs.length) = σ := by
      show (accS σ (some (k, c)) el 1 u8A xs).drop k = σ
      simp only [accS, Store.drop_set, Store.drop_none _ h1]
    rw [hg] at h4 ⊢
    have h6' : c' ≤ maxC ∨ c' = c := h6
    have := hk (some (k', c')) ⟨h4, by rw [List.length_append, hsz]; omega, by rcases h6' with h6 | h6 <;> omega⟩
    rw [List.length_append, hsz] at this
    simp only [accS, List.map_append, flat_append] at this
    exact this
end Go.Gw
namespace Go.Gw
variable {P : Program} {N : Nat} {L : Slots} {σ τ : Store} {K : AV → Store → Prop} {E : List PanicEntry → Store → Prop}
variable {d : Option Tmp} {ty : TypeId} {ps : String} {af : Array Edge} {g : Option (Nat × Bool)}
/-! ### A code's bytes -/
def tagB (t : CTag) : By := putsL [t.kind] ++ putT t.name ++ putsL [t.fn, t.n]
def funB (f : CFun) : By := putsL [f.params, f.regs, f.at_]
def valB (v : CVal) : By := putsL [v.kind] ++ putL v.n
def altB (a : CAlt) : By := putsL [a.take, a.tag, a.to] ++ putL a.n
def insB (x : CIns) : By := putsL [x.op, x.to, x.tag, x.fn] ++ putL x.n ++ putT x.prim ++ putsL [(x.vals.length : Int)] ++ x.vals.flatMap valB ++ putsL [(x.alts.length : Int)] ++ x.alts.flatMap altB
def bytesC (c : CCode) : By := [71] ++ putsL [(c.tags.length : Int)] ++ c.tags.flatMap tagB ++ putsL [(c.funs.length : Int)] ++ c.funs.flatMap funB ++ putsL [c.main, (c.ins.length : Int)] ++ c.ins.flatMap insB

theorem flat_drop {α β : Type} {f : α → List β} {l : List α} {j : Nat} (h : j < l.length) : (l.drop j).flatMap f = f l[j] ++ (l.drop (j + 1)).flatMap f := by
  rw [List.drop_eq_getElem_cons h]; rfl
theorem flat_done {α β : Type} {f : α → List β} {l : List α} {j : Nat} (h : l.length ≤ j) : (l.drop j).flatMap f = [] := by
  rw [List.drop_of_length_le h]; rfl
theorem putsL_len : ∀ ns : List Int, (putsL ns).length ≤ 10 * ns.length
  | [] => by simp [putsL]
  | n :: ns => by
    have h1 := putsL_len ns
    have h2 := putL_len n
    simp only [putsL, List.flatMap_cons, List.length_append, List.length_cons] at h1 ⊢
    omega
theorem putT_len (s : ByteArray) : s.size ≤ (putT s).length := by
  have : s.data.toList.length = s.size := by rw [Array.length_toList]; rfl
  simp only [putT, List.length_append]; omega

theorem om_call_acc2 {α : Type} {f : FuncId} {xs : Array Operand} {ts : Array TypeId} {args : List AV} {el e : Nat} {h : α → AV} {zs ys : List α} {a₀ : Acc} (hf : IsFn P f) (hx : getL L xs.toList = some args) (hs : τ = accS σ a₀ el e h zs)
    (hc : CM P f args (accS σ a₀ el e h zs) (RetAcc σ el e h ys)) (hk : ∀ a, accOk σ a ys.length → K (accU a ys.length) (accS σ a el e h ys)) : OM P N ⟨d, .call ⟨.value (.func f), xs, ts⟩, ty, ps, af, g⟩ L τ K E := by
  subst hs
  exact om_call_acc hf hx hc hk

/-- A slice literal that is appended to later. -/
theorem om_slice_acc {α : Type} {t el : TypeId} {e : Nat} {z : Value} {x : Operand} (f : α → AV) (v : α) (he : elmOf P t = some (el, e)) (hz : zeroOf P el = some z) (hx : get L x = some (f v)) (hw : Nat.beq (f v).cells.length e = true) (hle : Nat.ble e 16777216 = true)
    (hk : ∀ a, accOk σ a [v].length → K (accU a [v].length) (accS σ a el e f [v])) : OM P N ⟨d, .buildSlice t 1 #[(0, x)], ty, ps, af, g⟩ L σ K E := by
  have hwe := Nat.eq_of_beq_eq_true hw
  have hz' : (zerosOf z (1 * e)).length = e := by simp [zerosOf]
  refine om_buildSlice_own he hz (ps' := [(0, f v)]) (cs := flat [f v]) ?_ ?_ ?_ fun k hk' => ?_
  · simp only [getParts, hx]
  · have h1 : Nat.ble (0 * e + e) (zerosOf z (1 * e)).length = true := by rw [hz']; simp [Nat.ble_eq]
    have h2 : repA (zerosOf z (1 * e)) (0 * e) (f v).cells = flat [f v] := by
      simp only [repA, Nat.zero_mul, List.take_zero, List.nil_append, Nat.zero_add, flat]
      rw [List.drop_of_length_le (by omega)]
    simp only [fillA, hw, h1, h2, Bool.and_self, cond_true]
  · simpa using hle
  · have := hk (some (k, 1)) ⟨hk', Nat.le_refl _, by unfold maxC; omega⟩
    rw [show (flat [f v]).length = 1 * e by simp [flat, hwe]]
    exact this
end Go.Gw
