/- The operations once more, over the listed parts: quiet ones by their value, the others by what comes of them. -/
import Derived.Test.YtkloiehincgblaaDoorGwH
namespace Go.Gw
variable {P : Program} {N : Nat} {L : Slots} {H R : List HE} {K : AV → List HE → Prop} {E : List PanicEntry → List HE → Prop}
variable {d : Option Tmp} {ty : TypeId} {ps : String} {af : Array Edge} {g : Option (Nat × Bool)}

/-! ### What may fail, as plain functions -/
def at? {α : Type} (xs : List α) (n : Int) : Option α := if 0 ≤ n then xs[n.toNat]? else none
def sub? {α : Type} (xs : List α) (l h : Int) : Option (List α) := if 0 ≤ l ∧ l ≤ h ∧ h ≤ xs.length then some ((xs.drop l.toNat).take (h.toNat - l.toNat)) else none
def atS? (s : ByteArray) (n : Int) : Option Int := if 0 ≤ n ∧ n < s.size then some (byteAt s n.toNat) else none
def subS? (s : ByteArray) (l h : Int) : Option ByteArray := if 0 ≤ l ∧ l ≤ h ∧ h ≤ s.size then some (s.extract l.toNat h.toNat) else none
def catS? (s t : ByteArray) : Option ByteArray := if s.size + t.size ≤ 9223372036854775807 then some (s ++ t) else none
def div? (k : IntKind) (a b : Int) : Option Int := if b = 0 then none else some (k.wrap (a.tdiv b))
def rem? (a b : Int) : Option Int := if b = 0 then none else some (a.tmod b)
def shl? (k : IntKind) (a b : Int) : Option Int := if b < 0 then none else some (k.wrap (a * 2 ^ min b.toNat k.bits))
def shr? (k : IntKind) (a b : Int) : Option Int := if b < 0 then none else some (a.fdiv (2 ^ min b.toNat k.bits))
def guard? (b : Bool) : Option Unit := if b then some () else none
abbrev i64 (n : Int) : Int := IntKind.i64.wrap n

theorem obind {α β : Type} {x : Option α} {f : α → Option β} {r : β} (h : (x >>= f) = some r) : ∃ a, x = some a ∧ f a = some r := by
  cases x with
  | none => cases h
  | some a => exact ⟨a, rfl, h⟩
theorem ite_t {b : Bool} {ρ : Type} {x y : Option ρ} {r : ρ} (hb : b = true) (h : (if b then x else y) = some r) : x = some r := by subst hb; exact h
theorem ite_f {b : Bool} {ρ : Type} {x y : Option ρ} {r : ρ} (hb : b = false) (h : (if b then x else y) = some r) : y = some r := by subst hb; exact h
theorem some_inj {α : Type} {x y : α} (h : some x = some y) : x = y := Option.some.inj h

/-- The way out of a loop: on behind it, or out of the function. -/
inductive LR (α β : Type) where
  | go (a : α)
  | ret (b : β)

section
variable {ops : Array Oper} {l : List Oper} {Q : Exit → Slots → List HE → Prop} {loud : List Nat} {c : List Nat} {HJ : List HE} {ρ : Type} {x y : Option ρ} {r : ρ}
theorem wh_ite {t : Nat} {b : Bool} (hl : look L t = some (.sc (.bool b))) (h : (if b then x else y) = some r) (h1 : b = true → x = some r → WLH P N ops l Q ((t, .sc (.bool true)) :: L) H) (h0 : b = false → y = some r → WLH P N ops l Q ((t, .sc (.bool false)) :: L) H) :
    WLH P N ops l Q L H := wh_if hl (fun e => h1 e (ite_t e h)) (fun e => h0 e (ite_f e h))
theorem vh_ite {t : Nat} {b : Bool} (hl : look L t = some (.sc (.bool b))) (h : (if b then x else y) = some r) (h1 : b = true → x = some r → VCH P N ops HJ loud Q c ((t, .sc (.bool true)) :: L) H) (h0 : b = false → y = some r → VCH P N ops HJ loud Q c ((t, .sc (.bool false)) :: L) H) :
    VCH P N ops HJ loud Q c L H := vh_if hl (fun e => h1 e (ite_t e h)) (fun e => h0 e (ite_f e h))
theorem wmh_ite {co : Operand} {c1 c2 : Code} {b : Bool} (hl : get L co = some (.sc (.bool b))) (h : (if b then x else y) = some r) (h1 : b = true → x = some r → WMH P N c1 Q L H) (h0 : b = false → y = some r → WMH P N c2 Q L H) :
    WMH P N (.cond co c1 c2) Q L H := wmh_cond hl (fun e => h1 e (ite_t e h)) (fun e => h0 e (ite_f e h))
end

/-! ### Quiet operations -/
theorem q_move {x : Operand} {y : AV} (hx : get L x = some y) : QO P N ⟨d, .move x, ty, ps, af, g⟩ L H y := fun _ _ _ _ hk => om_move hx hk
theorem q_assign {x : Operand} {y : AV} (hx : get L x = some y) : QO P N ⟨d, .assign x, ty, ps, af, g⟩ L H y := fun _ _ _ _ hk => om_assign hx hk
theorem q_pick_t {c x y : Operand} {u : AV} (hc : get L c = some (.sc (.bool true))) (hx : get L x = some u) : QO P N ⟨d, .pick c x y, ty, ps, af, g⟩ L H u := fun _ _ _ _ hk => om_pick_t hc hx hk
theorem q_pick_f {c x y : Operand} {u : AV} (hc : get L c = some (.sc (.bool false))) (hy : get L y = some u) : QO P N ⟨d, .pick c x y, ty, ps, af, g⟩ L H u := fun _ _ _ _ hk => om_pick_f hc hy hk
theorem q_bin {op : BinOp} {t t' : TypeId} {x y : Operand} {u v r : Value} (hx : get L x = some (.sc u)) (hy : get L y = some (.sc v)) (hr : scBin op u v = some r) : QO P N ⟨d, .binOp op t x y t', ty, ps, af, g⟩ L H (.sc r) := fun _ _ _ _ hk => om_bin hx hy hr hk
theorem q_cat {t t' : TypeId} {x y : Operand} {u v s : ByteArray} (hx : get L x = some (.sc (.string u))) (hy : get L y = some (.sc (.string v))) (h : catS? u v = some s) : QO P N ⟨d, .binOp .add t x y t', ty, ps, af, g⟩ L H (.sc (.string s)) := fun _ _ _ _ hk => by
  unfold catS? at h
  split at h
  · rename_i hl; cases h; exact om_cat hx hy hl hk
  · cases h
theorem q_rem {t t' : TypeId} {k : IntKind} {x y : Operand} {u v r : Int} (hx : get L x = some (.sc (.int k u))) (hy : get L y = some (.sc (.int k v))) (h : rem? u v = some r) : QO P N ⟨d, .binOp .rem t x y t', ty, ps, af, g⟩ L H (.sc (.int k r)) := fun _ _ _ _ hk => by
  unfold rem? at h
  split at h
  · cases h
  · rename_i hl; cases h; exact om_rem hx hy hl hk
theorem q_quo {t t' : TypeId} {k : IntKind} {x y : Operand} {u v r : Int} (hx : get L x = some (.sc (.int k u))) (hy : get L y = some (.sc (.int k v))) (h : div? k u v = some r) : QO P N ⟨d, .binOp .quo t x y t', ty, ps, af, g⟩ L H (.sc (.int k r)) := fun _ _ _ _ hk => by
  unfold div? at h
  split at h
  · cases h
  · rename_i hl; cases h; exact om_quo hx hy hl hk
theorem q_shl {t t' : TypeId} {x y : Operand} {k k' : IntKind} {a b r : Int} (hx : get L x = some (.sc (.int k a))) (hy : get L y = some (.sc (.int k' b))) (h : shl? k a b = some r) : QO P N ⟨d, .binOp .shl t x y t', ty, ps, af, g⟩ L H (.sc (.int k r)) := fun _ _ _ _ hk => by
  unfold shl? at h
  split at h
  · cases h
  · rename_i hl; cases h; exact om_shl hx hy (by omega) hk
theorem q_shr {t t' : TypeId} {x y : Operand} {k k' : IntKind} {a b r : Int} (hx : get L x = some (.sc (.int k a))) (hy : get L y = some (.sc (.int k' b))) (h : shr? k a b = some r) : QO P N ⟨d, .binOp .shr t x y t', ty, ps, af, g⟩ L H (.sc (.int k r)) := fun _ _ _ _ hk => by
  unfold shr? at h
  split at h
  · cases h
  · rename_i hl; cases h; exact om_shr hx hy (by omega) hk
theorem q_not {t : TypeId} {x : Operand} {b : Bool} (hx : get L x = some (.sc (.bool b))) : QO P N ⟨d, .unOp .not t x, ty, ps, af, g⟩ L H (.sc (.bool (!b))) := fun _ _ _ _ hk => om_not hx hk
theorem q_neg {t : TypeId} {x : Operand} {k : IntKind} {n : Int} (hx : get L x = some (.sc (.int k n))) : QO P N ⟨d, .unOp .neg t x, ty, ps, af, g⟩ L H (.sc (.int k (k.wrap (0 - n)))) := fun _ _ _ _ hk => om_neg hx hk
theorem q_eqb {t t' : TypeId} {x y : Operand} {u v : Bool} (hu : P.underlying t = some .bool) (hx : get L x = some (.sc (.bool u))) (hy : get L y = some (.sc (.bool v))) : QO P N ⟨d, .binOp .eql t x y t', ty, ps, af, g⟩ L H (.sc (.bool (u == v))) :=
  fun _ _ _ _ hk => om_eqb hu hx hy (.inl rfl) hk
theorem q_neb {t t' : TypeId} {x y : Operand} {u v : Bool} (hu : P.underlying t = some .bool) (hx : get L x = some (.sc (.bool u))) (hy : get L y = some (.sc (.bool v))) : QO P N ⟨d, .binOp .neq t x y t', ty, ps, af, g⟩ L H (.sc (.bool (!(u == v)))) :=
  fun _ _ _ _ hk => om_eqb hu hx hy (.inr rfl) hk
theorem q_conv {s t : TypeId} {x : Operand} {k k' : IntKind} {n : Int} {q : TypeDesc} (hs : P.underlying s = some q) (ht : P.underlying t = some (.int k)) (hx : get L x = some (.sc (.int k' n))) : QO P N ⟨d, .convert s t x, ty, ps, af, g⟩ L H (.sc (.int k (k.wrap n))) := fun _ _ _ _ hk => om_conv hs ht hx hk
theorem q_conv_str {s t : TypeId} {x : Operand} {b : ByteArray} {q : TypeDesc} (hs : P.underlying s = some q) (ht : P.underlying t = some .string) (hx : get L x = some (.sc (.string b))) : QO P N ⟨d, .convert s t x, ty, ps, af, g⟩ L H (.sc (.string b)) := fun _ _ _ _ hk => om_conv_str hs ht hx hk
theorem q_conv_bytes {s t e : TypeId} {x : Operand} {l : By} (hs : P.underlying s = some (.slice e)) (he : P.underlying e = some (.int .u8)) (ht : P.underlying t = some .string) (hx : get L x = some (bytesA l)) : QO P N ⟨d, .convert s t x, ty, ps, af, g⟩ L H (.sc (.string (strOf l))) := fun _ _ _ _ hk => om_conv_bytes hs he ht hx hk
theorem q_len_str {t : TypeId} {x : Operand} {s : ByteArray} (hu : P.underlying t = some .string) (hx : get L x = some (.sc (.string s))) : QO P N ⟨d, .call ⟨.builtin .len, #[x], #[t]⟩, ty, ps, af, g⟩ L H (.sc (.int .i64 s.size)) := fun _ _ _ _ hk => om_len_str hu hx hk
theorem q_len_sl {t el : TypeId} {x : Operand} {p : Option Addr} {n c : Nat} (hu : P.underlying t = some (.slice el)) (hx : get L x = some (.sc (.slice p n c))) : QO P N ⟨d, .call ⟨.builtin .len, #[x], #[t]⟩, ty, ps, af, g⟩ L H (.sc (.int .i64 n)) := fun _ _ _ _ hk => om_len_sl hu hx hk
theorem q_len_acc {t el : TypeId} {x : Operand} {a : Acc} {n : Nat} (hu : P.underlying t = some (.slice el)) (hx : get L x = some (accU a n)) : QO P N ⟨d, .call ⟨.builtin .len, #[x], #[t]⟩, ty, ps, af, g⟩ L H (.sc (.int .i64 n)) := fun _ _ _ _ hk => om_len_sl hu hx hk
theorem q_len_slA {α : Type} {t el : TypeId} {x : Operand} {e : Nat} {f : α → AV} {xs : List α} (hu : P.underlying t = some (.slice el)) (hx : get L x = some (slA e f xs)) : QO P N ⟨d, .call ⟨.builtin .len, #[x], #[t]⟩, ty, ps, af, g⟩ L H (.sc (.int .i64 xs.length)) :=
  fun _ _ _ _ hk => om_len_slA hu hx (fun _ => hk)
theorem q_index_str {t : TypeId} {x i : Operand} {s : ByteArray} {k : IntKind} {n c : Int} (hu : P.underlying t = some .string) (hx : get L x = some (.sc (.string s))) (hi : get L i = some (.sc (.int k n))) (h : atS? s n = some c) :
    QO P N ⟨d, .index t x i, ty, ps, af, g⟩ L H (.sc (.int .u8 c)) := fun _ _ _ _ hk => by
  unfold atS? at h
  split at h
  · rename_i hl; cases h; exact om_index_str hu hx hi hl.1 hl.2 hk
  · cases h
theorem q_slice_str {t : TypeId} {x : Operand} {lo hi : Option Operand} {s r : ByteArray} {l h : Int} (hu : P.underlying t = some .string) (hx : get L x = some (.sc (.string s))) (hl : getB L 0 lo = some l) (hh : getB L s.size hi = some h) (hr : subS? s l h = some r) :
    QO P N ⟨d, .slice t x lo hi none, ty, ps, af, g⟩ L H (.sc (.string r)) := fun _ _ _ _ hk => by
  unfold subS? at hr
  split at hr
  · rename_i hc; cases hr; exact om_slice_str hu hx hl hh hc.1 hc.2.1 hc.2.2 hk
  · cases hr
theorem q_slice_slA {α : Type} {t el : TypeId} {e : Nat} {x : Operand} {lo hi : Option Operand} {f : α → AV} {xs ys : List α} {l h : Int} (he : elmOf P t = some (el, e)) (hx : get L x = some (slA e f xs))
    (hl : getB L 0 lo = some l) (hh : getB L (xs.length : Int) hi = some h) (hr : sub? xs l h = some ys) : QO P N ⟨d, .slice t x lo hi none, ty, ps, af, g⟩ L H (slA e f ys) := fun _ _ _ _ hk => by
  unfold sub? at hr
  split at hr
  · rename_i hc; cases hr; exact om_slice_slA he hx hl hh hc.1 hc.2.1 hc.2.2 hk
  · cases hr
theorem q_index {α : Type} {t el : TypeId} {e : Nat} {x i : Operand} {f : α → AV} {xs : List α} {k : IntKind} {n : Int} {y : α} (he : elmOf P t = some (el, e)) (hx : get L x = some (slA e f xs)) (hi : get L i = some (.sc (.int k n))) (h : at? xs n = some y) :
    QO P N ⟨d, .indexAddr t x i, ty, ps, af, g⟩ L H (.ref (f y) 0) := fun _ _ _ _ hk => by
  unfold at? at h
  split at h
  · rename_i h0; exact om_indexAddr_slv he hx hi h0 (by simp [h]) hk
  · cases h
theorem at_drop {α : Type} {xs ys : List α} {j : Nat} {y : α} (h : xs.drop j = y :: ys) : at? xs (j : Int) = some y ∧ j < xs.length ∧ xs.drop (j + 1) = ys := by
  have hj : j < xs.length := by
    rcases Nat.lt_or_ge j xs.length with h' | h'
    · exact h'
    · rw [List.drop_of_length_le h'] at h; cases h
  rw [List.drop_eq_getElem_cons hj] at h
  simp only [List.cons.injEq] at h
  exact ⟨by simp [at?, hj, h.1], hj, h.2⟩
theorem drop_end {α : Type} {xs : List α} {j : Nat} (h : xs.drop j = []) : xs.length ≤ j := by
  rcases Nat.lt_or_ge j xs.length with h' | h'
  · rw [List.drop_eq_getElem_cons h'] at h; cases h
  · exact h'

theorem q_load_ref {t : TypeId} {ag : Bool} {n : Nat} {p : Operand} {x : AV} {off : Nat} {y : AV} {cs : List AV} (ht : tyOf P t = some (ag, n)) (hp : get L p = some (.ref x off)) (hc : x.cells = cs) (hy : pick ag n off cs = some y) :
    QO P N ⟨d, .load t p, ty, ps, af, g⟩ L H y := fun _ _ _ _ hk => om_load_ref ht hp (by rw [hc]; exact hy) hk
theorem pick_all {n : Nat} {cs : List AV} (h : cs.length = n) : pick true n 0 cs = some (.agg cs) := by
  subst h
  have h1 : Nat.ble (0 + cs.length) cs.length = true := by rw [Nat.zero_add]; exact Nat.ble_eq ▸ Nat.le_refl _
  simp only [pick, h1, cond_true, List.drop_zero, List.take_length]
theorem q_load_own {t tb : TypeId} {ag : Bool} {n m : Nat} {p : Operand} {k off i : Nat} {cs : List AV} {y : AV} (ht : tyOf P t = some (ag, n)) (hp : get L p = some (.sc (.pointer (some ⟨k, off, none⟩)))) (hi : cut1 i H = some (.blk k (.cells tb m cs), R))
    (hy : pick ag n off cs = some y) : QO P N ⟨d, .load t p, ty, ps, af, g⟩ L H y := fun _ hs _ _ hk => om_load_own ht hp (has_blk ((has_cut1 hi).1 hs)) hy hk
theorem q_load_glob {t : TypeId} {n : Nat} {gv i j : Nat} {x : AV} {gl : List (Nat × AV)} {τ : Store} (ht : tyOf P t = some (false, n)) (hg : GL gl τ) (hj : gl[j]? = some (gv, x)) (hi : cut1 i H = some (.frm τ, R)) :
    QO P N ⟨d, .load t (.global gv), ty, ps, af, g⟩ L H x := fun σ hs _ _ hk => by
  have h1 := ((has_cut1 hi).1 hs).2.1 gv (.glob x) (hg (gv, x) (List.mem_of_getElem? hj))
  exact om_load_glob ht rfl h1 hk
theorem q_fieldAddr_ref {s : TypeId} {p : Operand} {f off o' : Nat} {x : AV} (hf : fldOf P s f = some off) (hp : get L p = some (.ref x o')) : QO P N ⟨d, .fieldAddr s p f, ty, ps, af, g⟩ L H (.ref x (o' + off)) := fun _ _ _ _ hk => om_fieldAddr_ref hf hp hk
theorem q_fieldAddr_own {s : TypeId} {p : Operand} {f off k o : Nat} (hf : fldOf P s f = some off) (hp : get L p = some (.sc (.pointer (some ⟨k, o, none⟩)))) : QO P N ⟨d, .fieldAddr s p f, ty, ps, af, g⟩ L H (.sc (.pointer (some ⟨k, o + off, none⟩))) := fun _ _ _ _ hk => om_fieldAddr_own hf hp hk
theorem q_nilCheck_ref {x : Operand} {y : AV} {off : Nat} (hx : get L x = some (.ref y off)) : QO P N ⟨d, .nilCheck x, ty, ps, af, g⟩ L H (.ref y off) := fun _ _ _ _ hk => om_nilCheck_ref hx hk
theorem q_nilCheck_own {x : Operand} {p : Addr} (hx : get L x = some (.sc (.pointer (some p)))) : QO P N ⟨d, .nilCheck x, ty, ps, af, g⟩ L H (.sc (.pointer (some p))) := fun _ _ _ _ hk => om_nilCheck_own hx hk
theorem q_extract {x : Operand} {j : Nat} {xs : List AV} {y : AV} (hx : get L x = some (.tup xs)) (hy : xs[j]? = some y) : QO P N ⟨d, .extract x j, ty, ps, af, g⟩ L H y := fun _ _ _ _ hk => om_extract hx hy hk
theorem q_field {s : TypeId} {x : Operand} {f off n : Nat} {ft : TypeId} {ag : Bool} {xs : List AV} {y : AV} (hf : fldPart P s f = some (off, ft)) (ht : tyOf P ft = some (ag, n)) (hx : get L x = some (.agg xs)) (hy : pick ag n off xs = some y) :
    QO P N ⟨d, .field s x f, ty, ps, af, g⟩ L H y := fun _ _ _ _ hk => om_field hf ht hx hy hk
theorem q_build {t : TypeId} {z : Value} {pl : List (Nat × Nat)} {parts : Array (Nat × Operand)} {ps' : List (Nat × AV)} {ys : List AV} (hp : plOf P t = some pl) (hz : zeroOf P t = some z) (hg : getParts L parts.toList = some ps')
    (hf : fillA (pl[·]?) (z.cells.toList.map .sc) ps' = some ys) : QO P N ⟨d, .build t parts, ty, ps, af, g⟩ L H (.agg ys) := fun _ _ _ _ hk => om_build hp hz hg hf hk
theorem q_makeFunc {f : Fn} {xs ys : Array Operand} {us vs : List AV} (hx : xs.toList.mapM (get L) = some us) (hy : ys.toList.mapM (get L) = some vs) : QO P N ⟨d, .makeFunc f xs ys, ty, ps, af, g⟩ L H (.fn f us vs) := fun _ _ _ _ hk => om_makeFunc hx hy hk
theorem q_iface_sc {t : TypeId} {q : TypeDesc} {x : Operand} {v : Value} (hu : P.underlying t = some q) (hq : isIface q = false) (hx : get L x = some (.sc v)) : QO P N ⟨d, .makeInterface t x, ty, ps, af, g⟩ L H (.sc (.iface t v)) := fun _ _ _ _ hk => om_iface_sc hu hq hx hk
theorem q_iface {t : TypeId} {q : TypeDesc} {x : Operand} {y : AV} (hu : P.underlying t = some q) (hq : isIface q = false) (hx : get L x = some y) : QO P N ⟨d, .makeInterface t x, ty, ps, af, g⟩ L H (.ifc t y) := fun _ _ _ _ hk => om_iface hu hq hx hk
theorem q_nil_eql {t t' : TypeId} {x : Operand} {u : AV} {b : Bool} {ms : Array (String × TypeId)} (hu : P.underlying t = some (.interface ms)) (hx : get L x = some u) (hb : nilB u = some b) : QO P N ⟨d, .binOp .eql t x (.const .nilIface) t', ty, ps, af, g⟩ L H (.sc (.bool b)) := fun _ _ _ _ hk => om_nil_eql hu hx hb hk
theorem q_nil_neq {t t' : TypeId} {x : Operand} {u : AV} {b : Bool} {ms : Array (String × TypeId)} (hu : P.underlying t = some (.interface ms)) (hx : get L x = some u) (hb : nilB u = some b) : QO P N ⟨d, .binOp .neq t x (.const .nilIface) t', ty, ps, af, g⟩ L H (.sc (.bool (!b))) := fun _ _ _ _ hk => om_nil_neq hu hx hb hk
theorem q_nilp_eql {t t' el : TypeId} {x : Operand} {u : AV} {b : Bool} (hu : P.underlying t = some (.pointer el)) (hx : get L x = some u) (hb : nilP u = some b) : QO P N ⟨d, .binOp .eql t x (.const (.pointer none)) t', ty, ps, af, g⟩ L H (.sc (.bool b)) := fun _ _ _ _ hk => om_nilp hu (.inl rfl) hx hb hk
theorem q_nilp_neq {t t' el : TypeId} {x : Operand} {u : AV} {b : Bool} (hu : P.underlying t = some (.pointer el)) (hx : get L x = some u) (hb : nilP u = some b) : QO P N ⟨d, .binOp .neq t x (.const (.pointer none)) t', ty, ps, af, g⟩ L H (.sc (.bool (!b))) := fun _ _ _ _ hk => om_nilp hu (.inr rfl) hx hb hk

/-! ### min, max of two -/
theorem om_max {t : TypeId} {ts : Array TypeId} {x y : Operand} {k : IntKind} {a b : Int} {σ : Store} {K : AV → Store → Prop} {E : List PanicEntry → Store → Prop} (hx : get L x = some (.sc (.int k a))) (hy : get L y = some (.sc (.int k b))) (hk : K (.sc (.int k (if a < b then b else a))) σ) :
    OM P N ⟨d, .call ⟨.builtin .max, #[x, y], ts⟩, t, ps, af, g⟩ L σ K E :=
  om_val _ (fun _ w a' _ ho => by
    have h1 := R_sc (ho x (by simp [Op.operands, Call.operands]) _ hx)
    have h2 := R_sc (ho y (by simp [Op.operands, Call.operands]) _ hy)
    refine ⟨_, ?_, R_sc_mk _⟩
    simp [execOp, resolve, invoke, builtin, Builtin.max_, Builtin.max2, h1, h2, List.foldlM]) hk
theorem om_min {t : TypeId} {ts : Array TypeId} {x y : Operand} {k : IntKind} {a b : Int} {σ : Store} {K : AV → Store → Prop} {E : List PanicEntry → Store → Prop} (hx : get L x = some (.sc (.int k a))) (hy : get L y = some (.sc (.int k b))) (hk : K (.sc (.int k (if b < a then b else a))) σ) :
    OM P N ⟨d, .call ⟨.builtin .min, #[x, y], ts⟩, t, ps, af, g⟩ L σ K E :=
  om_val _ (fun _ w a' _ ho => by
    have h1 := R_sc (ho x (by simp [Op.operands, Call.operands]) _ hx)
    have h2 := R_sc (ho y (by simp [Op.operands, Call.operands]) _ hy)
    refine ⟨_, ?_, R_sc_mk _⟩
    simp [execOp, resolve, invoke, builtin, Builtin.min_, Builtin.min2, h1, h2, List.foldlM]) hk
theorem q_max {t : TypeId} {ts : Array TypeId} {x y : Operand} {k : IntKind} {a b : Int} (hx : get L x = some (.sc (.int k a))) (hy : get L y = some (.sc (.int k b))) : QO P N ⟨d, .call ⟨.builtin .max, #[x, y], ts⟩, t, ps, af, g⟩ L H (.sc (.int k (if a < b then b else a))) := fun _ _ _ _ hk => om_max hx hy hk
theorem q_min {t : TypeId} {ts : Array TypeId} {x y : Operand} {k : IntKind} {a b : Int} (hx : get L x = some (.sc (.int k a))) (hy : get L y = some (.sc (.int k b))) : QO P N ⟨d, .call ⟨.builtin .min, #[x, y], ts⟩, t, ps, af, g⟩ L H (.sc (.int k (if b < a then b else a))) := fun _ _ _ _ hk => om_min hx hy hk

/-! ### The others -/
theorem oh_alloc {t n : Nat} {z : Value} {cs : List AV} (hz : zeroOf P t = some z) (hn : z.cells.size = n) (hc : z.cells.toList.map .sc = cs) (hk : ∀ k, K (.sc (.pointer (some ⟨k, 0, none⟩))) (.blk k (.cells t n cs) :: H)) :
    OMH P N ⟨d, .alloc t, ty, ps, af, g⟩ L H K E := fun σ hs => om_alloc_to hz hn hc fun k hk' => ⟨_, has_new hk' hs, hk k⟩
theorem oh_box {t n : Nat} {x : Operand} {y : AV} {cs : List AV} (hx : get L x = some y) (hc : y.cells = cs) (hn : cs.length = n) (hk : ∀ k, K (.sc (.pointer (some ⟨k, 0, none⟩))) (.blk k (.cells t n cs) :: H)) :
    OMH P N ⟨d, .box t x, ty, ps, af, g⟩ L H K E := fun σ hs => om_box_own hx fun k hk' => ⟨_, by subst hc; subst hn; exact has_new hk' hs, hk k⟩
theorem oh_store {t tb : TypeId} {ag : Bool} {n m i : Nat} {p x : Operand} {k off : Nat} {cs : List AV} {y : AV} (cs' : List AV) (ht : tyOf P t = some (ag, n)) (hp : get L p = some (.sc (.pointer (some ⟨k, off, none⟩))))
    (hi : cut1 i H = some (.blk k (.cells tb m cs), R)) (hx : get L x = some y) (hn : y.cells.length = n) (hone : y.cells.all AV.one = true) (hle' : Nat.ble (off + n) cs.length = true) (hc : repA cs off y.cells = cs')
    (hk : K (.sc undef) (.blk k (.cells tb m cs') :: R)) : OMH P N ⟨d, .store t p x, ty, ps, af, g⟩ L H K E := fun σ hs =>
  have h1 := (has_cut1 hi).1 hs
  om_store_to ht hp (has_blk h1) hx hn hone hle' hc ⟨_, has_set h1, hk⟩

/-! ### Slices that grow -/
theorem oh_acc {α : Type} {t t2 el e bytes i : Nat} {x y : Operand} {f : α → AV} {a : Acc} {xs ys zs : List α} (ha : Ap P t el e bytes) (hq : ∃ q, P.underlying t2 = some (.slice q)) (hf : Enc e f)
    (hx : get L x = some (accU a xs.length)) (hy : get L y = some (slA e f ys)) (hi : cut1 i H = some (.acc a el e (xs.map f), R)) (hz : (if (xs.length + ys.length) * (bytes + 1) ≤ 140737488355328 then some (xs ++ ys) else none) = some zs)
    (hk : ∀ a', K (accU a' zs.length) (.acc a' el e (zs.map f) :: R)) : OMH P N ⟨d, .call ⟨.builtin .append, #[x, y], #[t, t2]⟩, ty, ps, af, g⟩ L H K E := fun σ hs => by
  split at hz
  · rename_i hb
    cases hz
    obtain ⟨τ, hr, hok, rfl⟩ := has_acc ((has_cut1 hi).1 hs)
    rw [Nat.mul_add, Nat.mul_one] at hb
    exact om_acc ha hq hf hx hy rfl hok (by omega) (by omega) fun a' hok' => ⟨_, has_acc_mk hr hok', hk a'⟩
  · cases hz
theorem oh_acc1 {α : Type} {t t2 el e bytes i : Nat} {x y : Operand} {f : α → AV} {a : Acc} {xs zs : List α} (v : α) (ha : Ap P t el e bytes) (hq : ∃ q, P.underlying t2 = some (.slice q)) (hf : Enc e f)
    (hx : get L x = some (accU a xs.length)) (hy : get L y = some (.slv e [f v])) (hi : cut1 i H = some (.acc a el e (xs.map f), R)) (hz : (if (xs.length + 1) * (bytes + 1) ≤ 140737488355328 then some (xs ++ [v]) else none) = some zs)
    (hk : ∀ a', K (accU a' zs.length) (.acc a' el e (zs.map f) :: R)) : OMH P N ⟨d, .call ⟨.builtin .append, #[x, y], #[t, t2]⟩, ty, ps, af, g⟩ L H K E := oh_acc (ys := [v]) ha hq hf hx hy hi hz hk
theorem oh_acc_str {t t2 el bytes i : Nat} {x y : Operand} {a : Acc} {xs zs : By} {s : ByteArray} (ha : Ap P t el 1 bytes) (hq : P.underlying t2 = some .string)
    (hx : get L x = some (accU a xs.length)) (hy : get L y = some (.sc (.string s))) (hi : cut1 i H = some (.acc a el 1 (xs.map u8A), R)) (hz : (if (xs.length + s.size) * (bytes + 1) ≤ 140737488355328 then some (xs ++ s.data.toList) else none) = some zs)
    (hk : ∀ a', K (accU a' zs.length) (.acc a' el 1 (zs.map u8A) :: R)) : OMH P N ⟨d, .call ⟨.builtin .append, #[x, y], #[t, t2]⟩, ty, ps, af, g⟩ L H K E := fun σ hs => by
  split at hz
  · rename_i hb
    cases hz
    obtain ⟨τ, hr, hok, rfl⟩ := has_acc ((has_cut1 hi).1 hs)
    rw [Nat.mul_add, Nat.mul_one] at hb
    exact om_acc_str ha hq hx hy rfl hok (by omega) (by omega) fun a' hok' => ⟨_, has_acc_mk hr hok', hk a'⟩
  · cases hz
theorem oh_slice_acc {α : Type} {t el : TypeId} {e : Nat} {z : Value} {x : Operand} (f : α → AV) (v : α) (he : elmOf P t = some (el, e)) (hz : zeroOf P el = some z) (hx : get L x = some (f v)) (hw : Nat.beq (f v).cells.length e = true) (hle : Nat.ble e 16777216 = true)
    (hk : ∀ a, K (accU a [v].length) (.acc a el e ([v].map f) :: H)) : OMH P N ⟨d, .buildSlice t 1 #[(0, x)], ty, ps, af, g⟩ L H K E := fun σ hs =>
  om_slice_acc f v he hz hx hw hle fun a hok => ⟨_, has_acc_mk hs hok, hk a⟩
theorem oh_slice_one {t el : TypeId} {e : Nat} {z : Value} {x : Operand} {y : AV} (he : elmOf P t = some (el, e)) (hz : zeroOf P el = some z) (hx : get L x = some y) (hw : Nat.beq y.cells.length e = true) (hle : Nat.ble e 16777216 = true)
    (hk : K (.slv e [y]) H) : OMH P N ⟨d, .buildSlice t 1 #[(0, x)], ty, ps, af, g⟩ L H K E := fun σ hs => om_slice_one he hz hx hw hle ⟨H, hs, hk⟩
theorem oh_slice_imm {t el : TypeId} {e len : Nat} {z : Value} {parts : Array (Nat × Operand)} {ps' : List (Nat × AV)} (xs : List AV) (he : elmOf P t = some (el, e)) (hz : zeroOf P el = some z) (hg : getParts L parts.toList = some ps')
    (hf : fillA (fun i => some (i * e, e)) (zerosOf z (len * e)) ps' = some (flat xs)) (hle : Nat.ble (len * e) 16777216 = true) (hle2 : Nat.ble len 16777216 = true) (hw : widths e xs = true) (hl : xs.length = len) (hk : K (.slv e xs) H) :
    OMH P N ⟨d, .buildSlice t len parts, ty, ps, af, g⟩ L H K E := fun σ hs => om_buildSlice_imm xs he hz hg hf hle hle2 hw hl ⟨H, hs, hk⟩
theorem has_nil {el e : Nat} {σ : Store} (h : Has H σ) : Has (.acc none el e [] :: H) σ := by
  have := has_acc_mk (a := none) (el := el) (e := e) (f := u8A) (xs := []) h rfl
  exact this
theorem wmh_nilacc {c : Code} {Q : Exit → Slots → List HE → Prop} (el e : Nat) (h : WMH P N c Q L (.acc none el e [] :: H)) : WMH P N c Q L H := fun σ hs => h σ (has_nil hs)

/-! ### What grew is told by value from now on -/
def allAt (y : AV) (L : Slots) : List Nat → Prop
  | [] => True
  | s :: ss => look L s = some y ∧ allAt y L ss
def casts (y : AV) (L : Slots) : List Nat → Slots
  | [] => L
  | s :: ss => (s, y) :: casts y L ss
theorem RF.casts {A A' : Nat → Prop} {w : World} {x y : AV} {a : Act} (hf : RF A w N L a) (he : Ext A w A' w) (hc : ∀ v, Gw.R A w x v → Gw.R A' w y v) : ∀ (ss : List Nat), allAt x L ss → RF A' w N (Gw.casts y L ss) a
  | [], _ => hf.ext he
  | s :: ss, ⟨h1, h2⟩ => by
    have ih := RF.casts hf he hc ss h2
    refine ⟨ih.size, ih.defers, fun t u hu => ?_⟩
    simp only [Gw.casts, look_cons] at hu
    split at hu
    · rename_i e; subst e; cases hu; exact hc _ (hf.at_ t x h1)
    · exact ih.at_ t u hu
theorem wmh_frz {α : Type} {c : Code} {Q : Exit → Slots → List HE → Prop} {a : Acc} {el e i : Nat} {f : α → AV} {xs : List α} (ss : List Nat) (hi : cut1 i H = some (.acc a el e (xs.map f), R)) (hf : Enc e f) (hs : allAt (accU a xs.length) L ss)
    (h : WMH P N c Q (casts (slA e f xs) L ss) R) : WMH P N c Q L H := fun σ hσ => by
  obtain ⟨τ, hr, hok, rfl⟩ := has_acc ((has_cut1 hi).1 hσ)
  intro A w b hg hrf
  obtain ⟨A', hg', he, hc⟩ := acc_rel hf hg hok
  exact wp_mono (h τ hr A' w b hg' (hrf.casts he hc ss hs)) fun _ _ _ q => q.ext he
theorem wmh_nilsl {c : Code} {Q : Exit → Slots → List HE → Prop} (e : Nat) (ss : List Nat) (hs : allAt (.sc (.slice none 0 0)) L ss) (h : WMH P N c Q (casts (.slv e []) L ss) H) : WMH P N c Q L H := fun σ hσ A w b hg hrf =>
  h σ hσ A w b hg (hrf.casts (Ext.refl A w) (fun v hv => by rw [R_sc hv]; simp only [Gw.R]; exact ⟨none, 0, rfl, by simp, by unfold maxC; omega, .inl trivial⟩) ss hs)
/-- The same for one that lies in an owned block. -/
theorem wmh_frz_in {α : Type} {c : Code} {Q : Exit → Slots → List HE → Prop} {a : Acc} {el e i j k t n q : Nat} {cs : List AV} {f : α → AV} {xs : List α} {R2 : List HE} (cs' : List AV) (hi : cut1 i H = some (.acc a el e (xs.map f), R)) (hf : Enc e f)
    (hj : cut1 j R = some (.blk k (.cells t n cs), R2)) (hq : cs[q]? = some (accU a xs.length)) (hcs : cs.set q (slA e f xs) = cs') (h : WMH P N c Q L (.blk k (.cells t n cs') :: R2)) : WMH P N c Q L H := fun σ hσ => by
  obtain ⟨τ, hr, hok, rfl⟩ := has_acc ((has_cut1 hi).1 hσ)
  have hb := (has_cut1 hj).1 hr
  exact wm_acc_in k q hf rfl hok (has_blk hb) hq hcs (h _ (has_set hb))
theorem wmh_nil_in {c : Code} {Q : Exit → Slots → List HE → Prop} {e j k t n q : Nat} {cs : List AV} (cs' : List AV) (hj : cut1 j H = some (.blk k (.cells t n cs), R)) (hq : cs[q]? = some (.sc (.slice none 0 0))) (hcs : cs.set q (.slv e []) = cs')
    (h : WMH P N c Q L (.blk k (.cells t n cs') :: R)) : WMH P N c Q L H := fun σ hσ => by
  subst hcs
  have hb := (has_cut1 hj).1 hσ
  have hset := has_set (o' := .cells t n (cs.set q (.slv e []))) hb
  intro A w b hg hrf
  refine h _ hset A w b ?_ hrf
  have hk := has_blk hb
  obtain ⟨C, D, h1, h2, h3⟩ := hg.own k _ hk
  refine ⟨hg.inb, fun j o hj hm => ?_, fun j o hj => ?_⟩
  · by_cases e : j = k
    · subst e; exact hg.away j _ hk rfl
    · rw [Store.set_other _ _ _ e] at hj; exact hg.away j o hj hm
  · by_cases e : j = k
    · subst e
      rw [Store.set_same] at hj
      cases hj
      exact ⟨C, D, h1, h2, RL_set (Ext.refl A w) h3 hq (fun v hv => by rw [R_sc hv]; simp only [Gw.R]; exact ⟨none, 0, rfl, by simp, by unfold maxC; omega, .inl trivial⟩)⟩
    · rw [Store.set_other _ _ _ e] at hj; exact hg.own j o hj

/-- An operation's answer is told otherwise. -/
theorem OM.cast {o : Oper} {σ : Store} {K K' : AV → Store → Prop} {E : List PanicEntry → Store → Prop} (h : OM P N o L σ K E)
    (hk : ∀ y σ', K y σ' → ∀ A w v, Good A w σ' → Gw.R A w y v → ∃ A' y' σ'', Ext A w A' w ∧ Good A' w σ'' ∧ Gw.R A' w y' v ∧ K' y' σ'') : OM P N o L σ K' E :=
  fun A w a next Q hg hn ho h1 h2 => h A w a next Q hg hn ho (fun A' w' v y σ' he hg' hr hky => by
    obtain ⟨A2, y2, σ2, k1, k2, k3, k4⟩ := hk y σ' hky A' w' v hg' hr
    exact h1 A2 w' v y2 σ2 (he.trans k1) k2 k3 k4) h2
theorem oh_frz {α : Type} {o : Oper} {el e : Nat} {f : α → AV} {xs : List α} (hf : Enc e f) (h : OMH P N o L H (fun y H' => ∃ a R', y = accU a xs.length ∧ H' = .acc a el e (xs.map f) :: R' ∧ K (slA e f xs) R') E) : OMH P N o L H K E := fun σ hs =>
  (h σ hs).cast fun y σ' hh A w v hg hr => by
    obtain ⟨H', h1, a, R1, rfl, rfl, h4⟩ := hh
    obtain ⟨τ, hr', hok, rfl⟩ := has_acc h1
    obtain ⟨A', hg', he, hc⟩ := acc_rel hf hg hok
    exact ⟨A', _, τ, he, hg', hc v hr, R1, hr', h4⟩

/-- How long a slice may be. -/
theorem wmh_len {α : Type} {c : Code} {Q : Exit → Slots → List HE → Prop} {s e : Nat} {f : α → AV} {xs : List α} (hs : look L s = some (slA e f xs)) (h : xs.length ≤ 9223372036854775807 → WMH P N c Q L H) : WMH P N c Q L H := fun σ hσ A w b hg hrf => by
  have h1 := hrf.at_ s _ hs
  simp only [slA, Gw.R] at h1
  obtain ⟨p, q, _, h2, h3, _⟩ := h1
  exact h (by unfold maxC at h3; simp only [List.length_map] at h2; omega) σ hσ A w b hg hrf

/-! ### A loop over a list -/
theorem wmh_loopL {T S ρ : Type} {lf : List T → S → Option ρ} {c : Code} {Q : Exit → Slots → List HE → Prop} (Pre : List T → S → Slots → List HE → Prop) (Post : ρ → Exit → Slots → List HE → Prop) {l₀ : List T} {s₀ : S} {r : ρ} (h : lf l₀ s₀ = some r) (h0 : Pre l₀ s₀ L H)
    (hq : ∀ e L H, Post r e L H → Q e L H)
    (round : ∀ l s r, lf l s = some r → ∀ L H, Pre l s L H → WMH P N c (thenH (fun L' H' => ∃ x l' s', l = x :: l' ∧ lf l' s' = some r ∧ Pre l' s' L' H') (Post r)) L H) : WMH P N (.loop c) Q L H := by
  have key : ∀ l s r, lf l s = some r → ∀ L H, Pre l s L H → ∀ σ, Has H σ → ∀ A w a, Good A w σ → RF A w N L a → LoopIn P c (Fin A w N (lift (Post r))) a w := by
    intro l
    induction l with
    | nil =>
      intro s r hr L H hp σ hs A w a hg hf
      refine loopIn_step (wp_mono (round [] s r hr L H hp σ hs A w a hg hf) ?_)
      rintro e a2 w2 ⟨A2, L2, σ2, h1, h2, h3, H2, h4, h5⟩
      cases e with
      | normal => obtain ⟨x, l', s', hl, _⟩ := h5; cases hl
      | exit id => exact ⟨A2, L2, σ2, h1, h2, h3, H2, h4, h5⟩
      | goto l => exact ⟨A2, L2, σ2, h1, h2, h3, H2, h4, h5⟩
      | ret => exact ⟨A2, L2, σ2, h1, h2, h3, H2, h4, h5⟩
      | panic ch => exact ⟨A2, L2, σ2, h1, h2, h3, H2, h4, h5⟩
      | outgrown => exact ⟨A2, L2, σ2, h1, h2, h3, H2, h4, h5⟩
    | cons x l ih =>
      intro s r hr L H hp σ hs A w a hg hf
      refine loopIn_step (wp_mono (round (x :: l) s r hr L H hp σ hs A w a hg hf) ?_)
      rintro e a2 w2 ⟨A2, L2, σ2, h1, h2, h3, H2, h4, h5⟩
      cases e with
      | normal =>
        obtain ⟨x', l', s', hl, hl', hp'⟩ := h5
        cases hl
        exact (ih s' r hl' L2 H2 hp' σ2 h4 A2 w2 a2 h2 h3).mono fun _ _ _ k => k.ext h1
      | exit id => exact ⟨A2, L2, σ2, h1, h2, h3, H2, h4, h5⟩
      | goto l => exact ⟨A2, L2, σ2, h1, h2, h3, H2, h4, h5⟩
      | ret => exact ⟨A2, L2, σ2, h1, h2, h3, H2, h4, h5⟩
      | panic ch => exact ⟨A2, L2, σ2, h1, h2, h3, H2, h4, h5⟩
      | outgrown => exact ⟨A2, L2, σ2, h1, h2, h3, H2, h4, h5⟩
  intro σ hs A w a hg hf
  refine wp_mono (wp_loopIn (key l₀ s₀ r h L H h0 σ hs A w a hg hf)) ?_
  rintro e a2 w2 ⟨A2, L2, σ2, h1, h2, h3, H2, h4, h5⟩
  exact ⟨A2, L2, σ2, h1, h2, h3, H2, h4, hq _ _ _ h5⟩

/-! ### Results -/
theorem rh_one {fn : Func} {t : Tmp} {x : AV} (h : fn.results = #[.tmp t]) (hx : look L t = some x) : ResH P fn N L H x := fun _ _ => res_one h hx
theorem rh_two {fn : Func} {t u : Tmp} {x y : AV} (h : fn.results = #[.tmp t, .tmp u]) (hx : look L t = some x) (hy : look L u = some y) : ResH P fn N L H (.tup [x, y]) := fun _ _ => res_two h hx hy
theorem rh_three {fn : Func} {t u v : Tmp} {x y z : AV} (h : fn.results = #[.tmp t, .tmp u, .tmp v]) (hx : look L t = some x) (hy : look L u = some y) (hz : look L v = some z) : ResH P fn N L H (.tup [x, y, z]) := fun _ _ => res_three h hx hy hz
theorem rh_none {fn : Func} (h : fn.results = #[]) : ResH P fn N L H (.tup []) := fun _ _ => res_none h
theorem rh_cell {fn : Func} {s t tb k m n i : Nat} {ag : Bool} {cs : List AV} {x : AV} (h : fn.results = #[.cell s t]) (ht : tyOf P t = some (ag, n)) (hp : look L s = some (.sc (.pointer (some ⟨k, 0, none⟩)))) (hi : cut1 i H = some (.blk k (.cells tb m cs), R))
    (hy : Gw.pick ag n 0 cs = some x) : ResH P fn N L H x := fun _ hs => res_cell h ht hp (has_blk ((has_cut1 hi).1 hs)) hy

/-! ### A call of a function that is held -/
theorem oh_callv1 {f : FuncId} {fo : Operand} {xs : Array Operand} {ts : Array TypeId} {us vs args : List AV} (is : List Nat) {X Y : List HE} {y : AV} (hf : IsFn P f) (hfo : get L fo = some (.fn (.func f) us vs)) (hx : getL L xs.toList = some args) (hc : cuts is H = some (X, R))
    (h : ∀ τ, Has R τ → CMH P f (us ++ args ++ vs) (X ++ [.frm τ]) (Ret1 y Y τ)) (hk : K y (Y ++ R)) : OMH P N ⟨d, .call ⟨.value fo, xs, ts⟩, ty, ps, af, g⟩ L H K E := fun σ hs =>
  om_callv hf hfo hx (((cmh_frame (Q := endH K E) (fun τ hr => (h τ hr).mono (by rintro e H' ⟨rfl, rfl⟩; exact ⟨Y, rfl, hk⟩))) σ ((has_cuts hc).1 hs)).mono fun e σ' ⟨H', h1, h2⟩ => by
    cases e with
    | ret x => exact ⟨H', h1, h2⟩
    | pan ch => exact ⟨H', h1, h2⟩)
theorem oh_callvX {f : FuncId} {fo : Operand} {xs : Array Operand} {ts : Array TypeId} {us vs args : List AV} {α : Type} (is : List Nat) {X : List HE} {Y : α → List HE} {y : α → AV} (hf : IsFn P f) (hfo : get L fo = some (.fn (.func f) us vs)) (hx : getL L xs.toList = some args) (hc : cuts is H = some (X, R))
    (h : ∀ τ, Has R τ → CMH P f (us ++ args ++ vs) (X ++ [.frm τ]) (RetX y Y τ)) (hk : ∀ i, K (y i) (Y i ++ R)) : OMH P N ⟨d, .call ⟨.value fo, xs, ts⟩, ty, ps, af, g⟩ L H K E := fun σ hs =>
  om_callv hf hfo hx (((cmh_frame (Q := endH K E) (fun τ hr => (h τ hr).mono (by rintro e H' ⟨i, rfl, rfl⟩; exact ⟨Y i, rfl, hk i⟩))) σ ((has_cuts hc).1 hs)).mono fun e σ' ⟨H', h1, h2⟩ => by
    cases e with
    | ret x => exact ⟨H', h1, h2⟩
    | pan ch => exact ⟨H', h1, h2⟩)
end Go.Gw
namespace Go.Gw
variable {P : Program} {N : Nat} {L : Slots} {H R : List HE} {K : AV → List HE → Prop} {E : List PanicEntry → List HE → Prop}
variable {d : Option Tmp} {ty : TypeId} {ps : String} {af : Array Edge} {g : Option (Nat × Bool)}
/-! ### One telling of a value within another -/
def Le (x y : AV) : Prop := ∀ A w v, Gw.R A w x v → Gw.R A w y v
def LeL (xs ys : List AV) : Prop := ∀ A w vs, RL A w xs vs → RL A w ys vs
theorem Le.refl (x : AV) : Le x x := fun _ _ _ h => h
theorem LeL.refl (x : List AV) : LeL x x := fun _ _ _ h => h
theorem le_nil (e : Nat) : Le (.sc (.slice none 0 0)) (.slv e []) := fun A w v hv => by
  rw [R_sc hv]; simp only [Gw.R]; exact ⟨none, 0, rfl, by simp, by unfold maxC; omega, .inl trivial⟩
theorem LeL.cons {x y : AV} {xs ys : List AV} (h : Le x y) (k : LeL xs ys) : LeL (x :: xs) (y :: ys) := fun A w vs hr => by
  simp only [RL] at hr ⊢
  obtain ⟨v, r, rfl, h1, h2⟩ := hr
  exact ⟨v, r, rfl, h A w v h1, k A w r h2⟩
theorem le_agg {xs ys : List AV} (h : LeL xs ys) : Le (.agg xs) (.agg ys) := fun A w v hr => by
  simp only [Gw.R] at hr ⊢
  obtain ⟨cs, rfl, hl⟩ := hr
  exact ⟨cs, rfl, h A w cs hl⟩
theorem le_tup {xs ys : List AV} (h : LeL xs ys) : Le (.tup xs) (.tup ys) := fun A w v hr => by
  simp only [Gw.R] at hr ⊢
  obtain ⟨cs, rfl, hl⟩ := hr
  exact ⟨cs, rfl, h A w cs hl⟩
theorem CMH.le {f : FuncId} {args args' : List AV} {Q : AEnd → List HE → Prop} (hl : LeL args args') (h : CMH P f args' H Q) : CMH P f args H Q := fun σ hs A w vs hg hr => h σ hs A w vs hg (hl A w vs hr)
theorem ResH.le {fn : Func} {x y : AV} (h : ResH P fn N L H x) (hl : Le x y) : ResH P fn N L H y := fun σ hs A w a hg hf => let ⟨v, h1, h2⟩ := h σ hs A w a hg hf; ⟨v, h1, hl A w v h2⟩
theorem QO.le {o : Oper} {x y : AV} (h : QO P N o L H x) (hl : Le x y) : QO P N o L H y := fun σ hs K E hk => (h σ hs (fun z σ' => z = x ∧ σ' = σ) E ⟨rfl, rfl⟩).cast fun z σ' hz A w v hg hr => by
  obtain ⟨rfl, rfl⟩ := hz
  exact ⟨A, y, σ', Ext.refl A w, hg, hl A w v hr, hk⟩
theorem OMH.le {o : Oper} {x y : AV} {H' : List HE} (h : OMH P N o L H (fun z H1 => z = x ∧ H1 = H') E) (hl : Le x y) (hk : K y H') : OMH P N o L H K E := fun σ hs => (h σ hs).cast fun z σ' hz A w v hg hr => by
  obtain ⟨H1, h1, rfl, rfl⟩ := hz
  exact ⟨A, y, σ', Ext.refl A w, hg, hl A w v hr, H1, h1, hk⟩

theorem oh_acc_nil {α : Type} {t t2 el e bytes : Nat} {x y : Operand} {f : α → AV} {ys zs : List α} (ha : Ap P t el e bytes) (hq : ∃ q, P.underlying t2 = some (.slice q)) (hf : Enc e f)
    (hx : get L x = some (.sc (.slice none 0 0))) (hy : get L y = some (slA e f ys)) (hz : (if (0 + ys.length) * (bytes + 1) ≤ 140737488355328 then some ([] ++ ys) else none) = some zs)
    (hk : ∀ a', K (accU a' zs.length) (.acc a' el e (zs.map f) :: H)) : OMH P N ⟨d, .call ⟨.builtin .append, #[x, y], #[t, t2]⟩, ty, ps, af, g⟩ L H K E := fun σ hs =>
  oh_acc (i := 0) (a := none) (xs := ([] : List α)) ha hq hf hx hy (by rfl) hz hk σ (has_nil (el := el) (e := e) hs)
theorem oh_acc1_nil {α : Type} {t t2 el e bytes : Nat} {x y : Operand} {f : α → AV} {zs : List α} (v : α) (ha : Ap P t el e bytes) (hq : ∃ q, P.underlying t2 = some (.slice q)) (hf : Enc e f)
    (hx : get L x = some (.sc (.slice none 0 0))) (hy : get L y = some (.slv e [f v])) (hz : (if (0 + 1) * (bytes + 1) ≤ 140737488355328 then some ([] ++ [v]) else none) = some zs)
    (hk : ∀ a', K (accU a' zs.length) (.acc a' el e (zs.map f) :: H)) : OMH P N ⟨d, .call ⟨.builtin .append, #[x, y], #[t, t2]⟩, ty, ps, af, g⟩ L H K E := oh_acc_nil (ys := [v]) ha hq hf hx hy hz hk
theorem cut1_zero {h : HE} {H : List HE} : cut1 0 (h :: H) = some (h, H) := rfl
theorem q_add1 {t t' : TypeId} {x y : Operand} {u v : Int} (hx : get L x = some (.sc (.int .i64 u))) (hy : get L y = some (.sc (.int .i64 v))) (hb : -9223372036854775808 ≤ u + v ∧ u + v < 9223372036854775808) :
    QO P N ⟨d, .binOp .add t x y t', ty, ps, af, g⟩ L H (.sc (.int .i64 (u + v))) := fun _ _ _ _ hk => om_add64 hx hy hb hk
theorem app_ok {α : Type} {n m : Nat} {xs ys zs : List α} (h : (if n * m ≤ 140737488355328 then some (xs ++ ys) else none) = some zs) : zs = xs ++ ys ∧ n * m ≤ 140737488355328 := by
  split at h
  · cases h; exact ⟨rfl, by assumption⟩
  · cases h
end Go.Gw
namespace Go.Gw
def app? {α : Type} (m : Nat) (xs ys : List α) : Option (List α) := if (xs.length + ys.length) * m ≤ 140737488355328 then some (xs ++ ys) else none
def app1? {α : Type} (m : Nat) (xs : List α) (v : α) : Option (List α) := if (xs.length + 1) * m ≤ 140737488355328 then some (xs ++ [v]) else none
def appS? (m : Nat) (xs : By) (s : ByteArray) : Option By := if (xs.length + s.size) * m ≤ 140737488355328 then some (xs ++ s.data.toList) else none
theorem app?_eq {α : Type} {m : Nat} {xs ys zs : List α} (h : app? m xs ys = some zs) : zs = xs ++ ys := by
  unfold app? at h; split at h
  · cases h; rfl
  · cases h
end Go.Gw
