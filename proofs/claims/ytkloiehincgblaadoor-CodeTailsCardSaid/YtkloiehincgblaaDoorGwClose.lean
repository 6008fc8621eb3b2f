/- From a plain function's answer to the row: the world at the call's begin, the arguments told by value, what stays behind the call. -/
import Derived.Test.YtkloiehincgblaaDoorGwErr
import Derived.ProofKit
import Derived.ChangeSame
import Derived.ChangeVars
import Derived.JoinedOf
import Derived.RowKit
import Derived.RowKitTokens
import Derived.LaidLaws
import Derived.LaidMore
import Derived.MakeChecks
import Derived.Stop.Joined
import Derived.Stop.LaidErr
import Derived.WideKeyArgs
import Derived.DataReads
import Derived.ChangeReads
namespace Go.Gw
open Go.ChangeShapes Go.WideShapes Go.RowKit Go.Stop

def Old (W : World) : Nat → Prop := fun b => b < W.heap.size
/-- Nothing that was there has turned. -/
structure Later (W W' : World) : Prop where
  size : W.heap.size ≤ W'.heap.size
  block : ∀ b, b < W.heap.size → W'.heap[b]? = W.heap[b]?
  os : W'.os = W.os
  output : W'.output = W.output

theorem Later.kept {W W' : World} (h : Later W W') (may : MemPlace → Prop) : W.keptBut W' may := by
  refine ⟨h.os, h.output, fun i hi => ?_⟩
  rw [h.block i hi]
  cases W.heap[i]? with
  | none => rfl
  | some o => cases o <;> simp
theorem Later.same {W W' : World} (h : Later W W') {p : MemPlace} (hp : p.block < W.heap.size) : W.sameAt W' p := by
  cases p with
  | cell b off => exact World.cell?_of_block (w := W) (h.block b hp)
  | map b => exact h.block b hp

def glS (gl : List (Nat × AV)) : Store := fun k => (gl.find? (fun p => p.1 == k)).map (fun p => .glob p.2)

theorem run_law {P : Program} {f : FuncId} {args : List AV} {gl : List (Nat × AV)} (hc : ∀ τ, GL gl τ → CMH P f args [.frm τ] (Ret1 (.sc (.bool true)) [] τ)) {W : World} {vs : List Value} (hd : GL gl (glS gl))
    (hg : ∀ p ∈ gl, ∃ v, W.cell? ⟨p.1, 0, none⟩ = some v ∧ R (Old W) W p.2 v) (ha : RL (Old W) W args vs) : Calls P f vs.toArray W fun e w' => e = .returned (.bool true) ∧ Later W w' := by
  have hgood : Good (Old W) W (glS gl) := by
    refine ⟨fun b hb => hb, fun k o hk hm => ?_, fun k o hk => ?_⟩
    · unfold glS at hk
      cases hf : gl.find? (fun p => p.1 == k) with
      | none => simp [hf] at hk
      | some p => simp [hf] at hk; subst hk; cases hm
    · unfold glS at hk
      cases hf : gl.find? (fun p => p.1 == k) with
      | none => simp [hf] at hk
      | some p =>
        simp [hf] at hk
        subst hk
        have hp := List.mem_of_find?_eq_some hf
        have hk : p.1 = k := by simpa using List.find?_some hf
        subst hk
        obtain ⟨v, h1, h2⟩ := hg p hp
        exact ⟨World.block_lt_of_cell? W _ h1, v, h1, h2⟩
  refine (hc (glS gl) hd (glS gl) has_frm (Old W) W vs hgood ha).mono ?_
  rintro e w' ⟨A', σ', e', hx, _, hre, H', _, rfl, _⟩
  cases e with
  | returned v => exact ⟨by rw [R_sc (A := A') (w := w') hre], ⟨hx.size, fun b hb => hx.same b hb, hx.os, hx.output⟩⟩
  | panicked ch => exact hre.elim
  | outgrown => exact hre.elim

/-! ### Arguments -/
section
variable {H : Type} {enc : TypeId × Value → H} {P : Program} {W : World}
/-- Of every value of a type: it is told by data of a Lean type. -/
def Rd (enc : TypeId × Value → H) (P : Program) (W : World) (fuel : Nat) (t : TypeId) {α : Type} (f : α → AV) : Prop := ∀ (cs : List Value) (d : DataW H) (ps : List MemPlace), DataW.trod enc P W 0 (fun _ => true) true fuel t cs = some (d, ps) → ∃ x : α, RL (Old W) W (f x).cells cs

theorem rd_str {n : Nat} {t : TypeId} (hu : P.underlying t = some .string) : Rd enc P W n t sA := fun cs d ps h => by
  obtain ⟨s, rfl, _⟩ := DataW.trod_string hu h
  exact ⟨s, RL_one (R_sc_mk _)⟩
theorem rd_int {n : Nat} {t : TypeId} (hu : P.underlying t = some (.int .i64)) : Rd enc P W n t iA := fun cs d ps h => by
  obtain ⟨s, rfl, _⟩ := DataW.trod_int hu h
  exact ⟨s, RL_one (R_sc_mk _)⟩
theorem rd_bool {n : Nat} {t : TypeId} (hu : P.underlying t = some .bool) : Rd enc P W n t (fun b : Bool => AV.sc (.bool b)) := fun cs d ps h => by
  obtain ⟨s, rfl, _⟩ := DataW.trod_bool hu h
  exact ⟨s, RL_one (R_sc_mk _)⟩
theorem rd_u8 {n : Nat} {t : TypeId} (hu : P.underlying t = some (.int .u8)) : Rd enc P W n t u8A := fun cs d ps h => by
  obtain ⟨z, rfl, _, hw⟩ := DataW.trod_int hu h
  have hz : 0 ≤ z ∧ z ≤ 255 := by simpa [Lit.wf, IntKind.min, IntKind.max, IntKind.signed, IntKind.bits] using hw
  exact ⟨UInt8.ofNat z.toNat, by rw [u8A_of hz]; exact RL_one (R_sc_mk _)⟩

theorem build_re {α : Type} {f : α → AV} {e b : Nat} : ∀ (m o : Nat), (∀ j, j < m → ∃ (x : α) (cs : List Value), RL (Old W) W (f x).cells cs ∧ cs.length = e ∧ Mem W b (o + j * e) cs) → ∃ xs : List α, xs.length = m ∧ RE (Old W) W e (xs.map f) b o
  | 0, o, _ => ⟨[], rfl, by simp [RE]⟩
  | m + 1, o, h => by
    obtain ⟨x, cs, h1, h2, h3⟩ := h 0 (by omega)
    obtain ⟨xs, h4, h5⟩ := build_re m (o + e) (fun j hj => by
      obtain ⟨y, ds, k1, k2, k3⟩ := h (j + 1) (by omega)
      exact ⟨y, ds, k1, k2, by rw [show o + e + j * e = o + (j + 1) * e by rw [Nat.add_mul]; omega]; exact k3⟩)
    obtain ⟨v, h6, h7⟩ := R_of_cells h1
    refine ⟨x :: xs, by simp [h4], ?_⟩
    simp only [List.map_cons, RE]
    refine ⟨⟨v, h6, ?_, ?_⟩, h5⟩
    · rw [← h2, ← h7, Array.length_toList]
    · rw [h7]; simpa using h3

theorem rd_slice {α : Type} {n e : Nat} {t el : TypeId} {f : α → AV} (hu : P.underlying t = some (.slice el)) (hc : P.cellsOf el = e) (hpos : 0 < e) (he : ∀ m, m < n → Rd enc P W m el f) : Rd enc P W n t (slA e f) := fun cs d ps h => by
  rcases DataW.trod_slice hu h with ⟨rfl, _⟩ | ⟨a, len, cap, elems, rest, m, rfl, rfl, _, _, hle, hmax, hlen, hel, _⟩
  · exact ⟨[], RL_one (by simp only [slA, List.map_nil, R]; exact ⟨none, 0, rfl, by simp, by unfold maxC; omega, .inl trivial⟩)⟩
  · have hcap : cap ≤ maxC := by unfold maxLen at hmax; unfold maxC; omega
    have hat : ∀ i, i < len → ∃ (x : α) (cs : List Value), RL (Old W) W (f x).cells cs ∧ cs.length = e ∧ ∀ j, j < e → W.cell? ((a.add (i * e)).add j) = cs[j]? := by
      intro i hi
      have h1 := hel i hi
      rw [List.getElem?_eq_getElem (by omega), hc] at h1
      cases hcs : W.cells? 0 (a.add (i * e)) e with
      | none => simp [hcs] at h1
      | some cs =>
        rw [hcs, Option.bind_some] at h1
        obtain ⟨x, hx⟩ := he m (by omega) cs _ _ h1
        obtain ⟨_, h2, h3⟩ := World.cells?_some hcs
        exact ⟨x, cs, hx, h2, h3⟩
    by_cases hl0 : len = 0
    · subst hl0
      exact ⟨[], RL_one (by simp only [slA, List.map_nil, R]; exact ⟨some a, cap, rfl, by simp, hcap, .inl trivial⟩)⟩
    · obtain ⟨x0, cs0, _, hl, hc0⟩ := hat 0 (by omega)
      have h00 := hc0 0 hpos
      rw [List.getElem?_eq_getElem (by omega)] at h00
      obtain ⟨b, o, spot⟩ := a
      have hspot : spot = none := by simpa [Addr.add] using World.cell?_spot h00
      subst hspot
      have hb : b < W.heap.size := by
        have := World.block_lt_of_cell? W _ h00
        simpa [Addr.add] using this
      obtain ⟨xs, h1, h2⟩ := build_re (W := W) (f := f) (e := e) (b := b) len o (fun j hj => by
        obtain ⟨x, cs, k1, k2, k3⟩ := hat j hj
        refine ⟨x, cs, k1, k2, fun i v hv => ?_⟩
        have hi : i < e := by rw [← k2]; exact (List.getElem?_eq_some_iff.1 hv).1
        have := k3 i hi
        rw [add_none, add_none] at this
        rw [this]; exact hv)
      refine ⟨xs, RL_one ?_⟩
      simp only [slA, R]
      exact ⟨some ⟨b, o, none⟩, cap, by rw [List.length_map, h1], by rw [List.length_map]; omega, hcap, .inr ⟨b, o, rfl, hb, h2⟩⟩

/-- One argument. -/
theorem rd_arg {α : Type} {t : TypeId} {f : α → AV} {v : Value} {d : DataW H} {ps : List MemPlace} (hr : ∀ n, Rd enc P W n t f) (h : DataW.Trod enc P W 0 (fun _ => true) true t v d ps) : ∃ x : α, RL (Old W) W (f x).cells v.cells.toList := by
  obtain ⟨n, h⟩ := h
  exact hr n _ _ _ h
theorem arg_of {y : AV} {v : Value} (hy : y.cells = [y]) (hv : v.cells.toList = [v]) (h : RL (Old W) W y.cells v.cells.toList) : R (Old W) W y v := by
  rw [hy, hv] at h
  simp only [RL] at h
  obtain ⟨u, r, h1, h2, _⟩ := h
  simp only [List.cons.injEq] at h1
  rw [h1.1]; exact h2
variable {r : Reach} {base : Nat} {t : TypeId} {v : Value} {d : DataW H} {ps : List MemPlace}
theorem arg_slice {α : Type} {el : TypeId} {e : Nat} {f : α → AV} (hu : P.underlying t = some (.slice el)) (hr : ∀ n, Rd enc P W n t (slA e f)) (hv : Value.okWide P W r base t v) (h : DataW.Trod enc P W 0 (fun _ => true) true t v d ps) :
    ∃ x : List α, R (Old W) W (slA e f x) v := by
  obtain ⟨x, hx⟩ := rd_arg hr h
  obtain ⟨a, len, cap, rfl⟩ := okWide_slice hu hv
  exact ⟨x, arg_of rfl rfl hx⟩
theorem arg_int (hu : P.underlying t = some (.int .i64)) (hv : Value.okWide P W r base t v) (h : DataW.Trod enc P W 0 (fun _ => true) true t v d ps) : ∃ n : Int, R (Old W) W (iA n) v ∧ -9223372036854775808 ≤ n ∧ n ≤ 9223372036854775807 := by
  obtain ⟨n, rfl, _, _, hw⟩ := open_int hu hv h
  exact ⟨n, R_sc_mk _, by simpa [Lit.wf, IntKind.min, IntKind.max, IntKind.signed, IntKind.bits] using hw⟩
theorem arg_str (hu : P.underlying t = some .string) (hv : Value.okWide P W r base t v) : ∃ s : ByteArray, R (Old W) W (sA s) v := by
  obtain ⟨s, rfl⟩ := okWide_string hu hv
  exact ⟨s, R_sc_mk _⟩
theorem arg_struct {α : Type} {fs : Array Field} {f : α → AV} {cs : α → List AV} (hf : ∀ x, f x = .agg (cs x)) (hu : P.underlying t = some (.struct fs)) (hr : ∀ n, Rd enc P W n t f) (hv : Value.okWide P W r base t v) (h : DataW.Trod enc P W 0 (fun _ => true) true t v d ps) :
    ∃ x : α, R (Old W) W (f x) v := by
  obtain ⟨x, hx⟩ := rd_arg hr h
  obtain ⟨c, rfl, _⟩ := okWide_struct hu hv
  refine ⟨x, ?_⟩
  rw [hf] at hx ⊢
  simp only [R]
  exact ⟨c.toList, by simp, hx⟩
end

/-! ### The listed errors -/
theorem laid_tail {P : Program} {W : World} {x : String × DataW Unit} {r : List (String × DataW Unit)} (h : laidMet P (x :: r) W) : laidMet P r W := by
  obtain ⟨ps, ⟨g0, t0, cs0, f0, p0, q0, hg0, ht0, hv0, hd0, hq, e0⟩, hnd, hrows⟩ := h
  subst e0
  exact ⟨q0, hq, (List.nodup_append.1 hnd).2.1, fun b off hm => hrows b off (by simp [hm])⟩

theorem laid_cell {P : Program} {W : World} {n nm : String} {text : List UInt8} {g : Nat} {ti tp te ts : TypeId} {ms : Array (String × TypeId)} {f : Field} (hg : P.globalNamed n = some g) (ht : (P.globals[g]?).map (·.type) = some ti) (hi : P.underlying ti = some (.interface ms))
    (hrow : ∀ u, P.typeName? 3 u = some nm → u = tp) (hp : P.underlying tp = some (.pointer te)) (he : P.underlying te = some (.struct #[f])) (hft : f.type = ts) (hfo : f.offset = 0) (hs : P.underlying ts = some .string) (hc : P.cellsOf te = 1) (hcs : P.cellsOf ts = 1) :
    ∀ {L : List (String × DataW Unit)}, laidMet P L W → (n, DataW.iface nm (.ptr (.agg [.lit (.string text)]))) ∈ L → ∃ a : Addr, W.cell? ⟨g, 0, none⟩ = some (.iface tp (.pointer (some a)))
  | [], _, hm => by simp at hm
  | x :: r, h, hm => by
    rcases List.mem_cons.1 hm with rfl | hm
    · obtain ⟨a, s, hv, _⟩ := laid_sentinel h hg ht hi hrow hp he hft hfo hs hc hcs
      exact ⟨a, by simpa using World.var?_cell hg hv 0⟩
    · exact laid_cell hg ht hi hrow hp he hft hfo hs hc hcs (laid_tail h) hm

/-- What the row asks behind the call. -/
theorem post_law {H : Type} {enc : TypeId × Value → H} {P : Program} {f : Func} {s : ChangeSpec} {W W' : World} {args : Array Value} {ds : List (DataW H)} {p : List MemPlace} {tb : TypeId}
    (hv : s.vars = []) (hw : DataW.Whole enc P f.params.toList s.vars false W args.toList ds [] (p ++ [])) (hfn : s.fn H (ds ++ []) = { results := [.lit (.bool true)], args := ds }) (hrt : f.resultTypes = #[tb]) (hb : P.underlying tb = some .bool)
    (hl : Later W W') (again : (∀ x ∈ p, W.sameAt W' x) → (∀ x ∈ p, x.block < W.heap.size) → DataW.TrodAll enc P W' 0 (fun b => decide (b < W.heap.size)) true f.params.toList args.toList ds p) :
    s.post enc P f false true false false W args (.bool true) W' := by
  have hlt : ∀ x ∈ p, x.block < W.heap.size := fun x hx => hw.lt x (List.mem_append_left _ hx)
  refine ⟨ds, [], p ++ [], [], p, [], hw, ?_, ?_, ?_, hl.kept _, fun h => by cases h⟩
  · rw [hfn, hrt]; exact trodAll_mk1 (shut_bool hb true)
  · rw [hfn]; exact again (fun x hx => hl.same (hlt x hx)) hlt
  · rw [hfn, hv]; exact rfl
end Go.Gw
