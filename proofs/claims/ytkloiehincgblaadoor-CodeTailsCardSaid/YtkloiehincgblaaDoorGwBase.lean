/- The base of a small program logic: values told by what they hold (AV), the immutable part of memory (A), the owned blocks (a store). -/
import Derived.Orders
import Derived.Tactics
import Derived.Below
namespace Go.Gw

/-- A value, told by what it holds. `sc`: just this value. `slv`: a slice of immutable memory, its elements of `e` cells each. `ref`: a pointer into an immutable variable. -/
inductive AV where
  | sc (v : Value)
  | agg (xs : List AV)
  | tup (xs : List AV)
  | slv (e : Nat) (xs : List AV)
  | ref (x : AV) (off : Nat)
  | ifc (t : TypeId) (x : AV)
  | fn (f : Fn) (first cap : List AV)

instance : Inhabited AV := ⟨.sc default⟩

def maxC : Nat := 9223372036854775807

/-- From a place on memory holds these cells. -/
def Mem (w : World) (b o : Nat) (vs : List Value) : Prop := ∀ j v, vs[j]? = some v → w.cell? ⟨b, o + j, none⟩ = some v

mutual
def R (A : Nat → Prop) (w : World) : AV → Value → Prop
  | .sc v, u => u = v
  | .agg xs, u => ∃ cs : List Value, u = .agg cs.toArray ∧ RL A w xs cs
  | .tup xs, u => ∃ cs : List Value, u = .tuple cs.toArray ∧ RL A w xs cs
  | .slv e xs, u => ∃ a c, u = .slice a xs.length c ∧ xs.length ≤ c ∧ c ≤ maxC ∧ (xs = [] ∨ ∃ b o, a = some ⟨b, o, none⟩ ∧ A b ∧ RE A w e xs b o)
  | .ref x off, u => ∃ b o v, u = .pointer (some ⟨b, o + off, none⟩) ∧ A b ∧ R A w x v ∧ Mem w b o v.cells.toList
  | .ifc t x, u => ∃ y, u = .iface t y ∧ R A w x y
  | .fn f xs ys, u => ∃ as bs : List Value, u = .func f as.toArray bs.toArray ∧ RL A w xs as ∧ RL A w ys bs
def RL (A : Nat → Prop) (w : World) : List AV → List Value → Prop
  | [], vs => vs = []
  | x :: xs, vs => ∃ v r, vs = v :: r ∧ R A w x v ∧ RL A w xs r
def RE (A : Nat → Prop) (w : World) (e : Nat) : List AV → Nat → Nat → Prop
  | [], _, _ => True
  | x :: xs, b, o => (∃ v, R A w x v ∧ v.cells.size = e ∧ Mem w b o v.cells.toList) ∧ RE A w e xs b (o + e)
end

/-- What became of the world: nothing that was immutable has turned. -/
structure Ext (A : Nat → Prop) (w : World) (A' : Nat → Prop) (w' : World) : Prop where
  sub : ∀ b, A b → A' b
  same : ∀ b, A b → w'.heap[b]? = w.heap[b]?
  size : w.heap.size ≤ w'.heap.size
  os : w'.os = w.os
  tape : w'.tape = w.tape
  output : w'.output = w.output

theorem Ext.refl (A : Nat → Prop) (w : World) : Ext A w A w := ⟨fun _ h => h, fun _ _ => rfl, Nat.le_refl _, rfl, rfl, rfl⟩
theorem Ext.trans {A A1 A2 : Nat → Prop} {w w1 w2 : World} (h : Ext A w A1 w1) (k : Ext A1 w1 A2 w2) : Ext A w A2 w2 :=
  ⟨fun b hb => k.sub b (h.sub b hb), fun b hb => (k.same b (h.sub b hb)).trans (h.same b hb), Nat.le_trans h.size k.size, k.os.trans h.os, k.tape.trans h.tape, k.output.trans h.output⟩

theorem Mem.same {w w' : World} {b o : Nat} {vs : List Value} (h : Mem w b o vs) (hs : w'.heap[b]? = w.heap[b]?) : Mem w' b o vs :=
  fun j v hv => (World.cell?_of_block (w := w) hs).trans (h j v hv)

mutual
theorem R.ext {A A' : Nat → Prop} {w w' : World} (h : Ext A w A' w') : ∀ {x : AV} {u : Value}, R A w x u → R A' w' x u
  | .sc v, u, hr => by simpa only [R] using hr
  | .agg xs, u, hr => by
    simp only [R] at hr ⊢
    obtain ⟨cs, rfl, hl⟩ := hr
    exact ⟨cs, rfl, RL.ext h hl⟩
  | .tup xs, u, hr => by
    simp only [R] at hr ⊢
    obtain ⟨cs, rfl, hl⟩ := hr
    exact ⟨cs, rfl, RL.ext h hl⟩
  | .slv e xs, u, hr => by
    simp only [R] at hr ⊢
    obtain ⟨a, c, rfl, h1, h2, h3⟩ := hr
    refine ⟨a, c, rfl, h1, h2, ?_⟩
    rcases h3 with h3 | ⟨b, o, rfl, hb, he⟩
    · exact .inl h3
    · exact .inr ⟨b, o, rfl, h.sub b hb, RE.ext h hb he⟩
  | .ref x off, u, hr => by
    simp only [R] at hr ⊢
    obtain ⟨b, o, v, rfl, hb, hx, hm⟩ := hr
    exact ⟨b, o, v, rfl, h.sub b hb, R.ext h hx, hm.same (h.same b hb)⟩
  | .ifc t x, u, hr => by
    simp only [R] at hr ⊢
    obtain ⟨y, rfl, hy⟩ := hr
    exact ⟨y, rfl, R.ext h hy⟩
  | .fn f xs ys, u, hr => by
    simp only [R] at hr ⊢
    obtain ⟨as, bs, rfl, h1, h2⟩ := hr
    exact ⟨as, bs, rfl, RL.ext h h1, RL.ext h h2⟩
theorem RL.ext {A A' : Nat → Prop} {w w' : World} (h : Ext A w A' w') : ∀ {xs : List AV} {vs : List Value}, RL A w xs vs → RL A' w' xs vs
  | [], vs, hr => by simpa only [RL] using hr
  | x :: xs, vs, hr => by
    simp only [RL] at hr ⊢
    obtain ⟨v, r, rfl, h1, h2⟩ := hr
    exact ⟨v, r, rfl, R.ext h h1, RL.ext h h2⟩
theorem RE.ext {A A' : Nat → Prop} {w w' : World} (h : Ext A w A' w') {e b : Nat} (hb : A b) : ∀ {xs : List AV} {o : Nat}, RE A w e xs b o → RE A' w' e xs b o
  | [], o, _ => by simp only [RE]
  | x :: xs, o, hr => by
    simp only [RE] at hr ⊢
    obtain ⟨⟨v, h1, h2, h3⟩, h4⟩ := hr
    exact ⟨⟨v, R.ext h h1, h2, h3.same (h.same b hb)⟩, RE.ext h hb h4⟩
end

/-- A block that is known: an owned one, or a variable that stays as it is. -/
inductive AObj where
  | cells (t : TypeId) (n : Nat) (cs : List AV)
  | map (es : List (Value × AV × Nat)) (clock : Nat)
  | glob (x : AV)

/-- `glob`: no block of one's own: a variable of one cell that never turns. -/
def AObj.mine : AObj → Bool
  | .glob _ => false
  | _ => true

abbrev Store := Nat → Option AObj

def RM (A : Nat → Prop) (w : World) : List (Value × AV × Nat) → List MapEntry → Prop
  | [], E => E = []
  | e :: es, E => ∃ m r, E = m :: r ∧ m.key = e.1 ∧ m.born = e.2.2 ∧ R A w e.2.1 m.val ∧ RM A w es r

theorem RM.ext {A A' : Nat → Prop} {w w' : World} (h : Ext A w A' w') : ∀ {es : List (Value × AV × Nat)} {E : List MapEntry}, RM A w es E → RM A' w' es E
  | [], E, hr => by simpa only [RM] using hr
  | e :: es, E, hr => by
    simp only [RM] at hr ⊢
    obtain ⟨m, r, rfl, h1, h2, h3, h4⟩ := hr
    exact ⟨m, r, rfl, h1, h2, h3.ext h, RM.ext h h4⟩

def RO (A : Nat → Prop) (w : World) (k : Nat) : AObj → Prop
  | .cells t n cs => ∃ C D : List Value, w.heap[k]? = some (.cells (C ++ D).toArray t (0, 0)) ∧ (C ++ D).length = n ∧ RL A w cs C
  | .map es clk => ∃ E : List MapEntry, w.heap[k]? = some (.map E.toArray clk) ∧ RM A w es E ∧ (es.map (·.2.2)).Nodup ∧ ∀ e ∈ es, e.2.2 < clk
  | .glob x => A k ∧ ∃ v, w.cell? ⟨k, 0, none⟩ = some v ∧ R A w x v

theorem RO.ext {A A' : Nat → Prop} {w w' : World} (h : Ext A w A' w') {k : Nat} (hk : w'.heap[k]? = w.heap[k]?) : ∀ {o : AObj}, RO A w k o → RO A' w' k o
  | .cells t n cs, hr => by
    obtain ⟨C, D, h1, h2, h3⟩ := hr
    exact ⟨C, D, hk.trans h1, h2, h3.ext h⟩
  | .map es clk, hr => by
    obtain ⟨E, h1, h2, h3⟩ := hr
    exact ⟨E, hk.trans h1, h2.ext h, h3⟩
  | .glob x, hr => by
    obtain ⟨h1, v, h2, h3⟩ := hr
    exact ⟨h.sub k h1, v, (World.cell?_of_block (w := w) hk).trans h2, h3.ext h⟩

structure Good (A : Nat → Prop) (w : World) (σ : Store) : Prop where
  inb : ∀ b, A b → b < w.heap.size
  away : ∀ k o, σ k = some o → o.mine = true → ¬ A k
  own : ∀ k o, σ k = some o → RO A w k o

theorem RO.lt {A : Nat → Prop} {w : World} {k : Nat} : ∀ {o : AObj}, RO A w k o → k < w.heap.size
  | .cells t n cs, hr => by
    obtain ⟨C, D, h1, _⟩ := hr
    exact (Array.getElem?_eq_some_iff.1 h1).1
  | .map es clk, hr => by
    obtain ⟨E, h1, _⟩ := hr
    exact (Array.getElem?_eq_some_iff.1 h1).1
  | .glob x, hr => by
    obtain ⟨_, v, h2, _⟩ := hr
    exact World.block_lt_of_cell? w _ h2

theorem Good.lt {A : Nat → Prop} {w : World} {σ : Store} (h : Good A w σ) {k : Nat} {o : AObj} (hk : σ k = some o) : k < w.heap.size := (h.own k o hk).lt

def Store.set (σ : Store) (k : Nat) (o : AObj) : Store := fun j => if j = k then some o else σ j
def Store.drop (σ : Store) (k : Nat) : Store := fun j => if j = k then none else σ j
theorem Store.set_same (σ : Store) (k : Nat) (o : AObj) : σ.set k o k = some o := by simp [Store.set]
theorem Store.set_other (σ : Store) (k : Nat) (o : AObj) {j : Nat} (h : j ≠ k) : σ.set k o j = σ j := by simp [Store.set, h]
theorem Store.set_set (σ : Store) (k : Nat) (o p : AObj) : (σ.set k o).set k p = σ.set k p := by
  funext j; simp only [Store.set]; split <;> rfl
theorem Store.drop_set (σ : Store) (k : Nat) (o : AObj) : (σ.set k o).drop k = σ.drop k := by
  funext j; simp only [Store.set, Store.drop]; split <;> rfl
theorem Store.drop_none (σ : Store) {k : Nat} (h : σ k = none) : σ.drop k = σ := by
  funext j; simp only [Store.drop]; split
  · rename_i e; subst e; exact h.symm
  · rfl
theorem Store.set_self (σ : Store) {k : Nat} {o : AObj} (h : σ k = some o) : σ.set k o = σ := by
  funext j; simp only [Store.set]; split
  · rename_i e; subst e; exact h.symm
  · rfl
theorem Store.set_comm (σ : Store) {k j : Nat} (o p : AObj) (h : k ≠ j) : (σ.set k o).set j p = (σ.set j p).set k o := by
  funext i; simp only [Store.set]; split <;> split <;> simp_all

/-- Of the known blocks some are let go. -/
def Less (τ σ : Store) : Prop := ∀ k o, τ k = some o → σ k = some o
theorem Less.refl (σ : Store) : Less σ σ := fun _ _ h => h
theorem Less.trans {a b c : Store} (h : Less a b) (k : Less b c) : Less a c := fun i o hi => k i o (h i o hi)
theorem Less.new {σ : Store} {k : Nat} (h : σ k = none) (o : AObj) : Less σ (σ.set k o) := fun j p hj => by
  simp only [Store.set]
  split
  · rename_i e; subst e; rw [h] at hj; cases hj
  · exact hj
theorem Less.set {τ σ : Store} (h : Less τ σ) (k : Nat) (o : AObj) : Less (τ.set k o) (σ.set k o) := fun j p hj => by
  simp only [Store.set] at hj ⊢
  split
  · rename_i e; rw [if_pos e] at hj; exact hj
  · rename_i e; rw [if_neg e] at hj; exact h j p hj
theorem Less.more {τ σ : Store} (h : Less τ σ) {k : Nat} (hk : τ k = none) (o : AObj) : Less τ (σ.set k o) := fun j p hj => by
  simp only [Store.set]
  split
  · rename_i e; subst e; rw [hk] at hj; cases hj
  · exact h j p hj
theorem Less.drop (σ : Store) (k : Nat) : Less (σ.drop k) σ := fun j p hj => by
  simp only [Store.drop] at hj
  split at hj
  · cases hj
  · exact hj
theorem Good.less {A : Nat → Prop} {w : World} {τ σ : Store} (hg : Good A w σ) (h : Less τ σ) : Good A w τ :=
  ⟨hg.inb, fun k o hk => hg.away k o (h k o hk), fun k o hk => hg.own k o (h k o hk)⟩

/-- The slots of a frame, as far as they are known. -/
abbrev Slots := List (Nat × AV)
def look : Slots → Nat → Option AV
  | [], _ => none
  | (t, x) :: L, s => cond (Nat.beq s t) (some x) (look L s)

theorem look_cons (L : Slots) (t : Nat) (x : AV) (s : Nat) : look ((t, x) :: L) s = if s = t then some x else look L s := by
  simp only [look]
  by_cases h : s = t
  · subst h; simp
  · have : Nat.beq s t = false := Bool.eq_false_iff.2 (fun hb => h (Nat.eq_of_beq_eq_true hb))
    simp [this, h]

def get (L : Slots) : Operand → Option AV
  | .tmp t => look L t
  | .const v => some (.sc v)
  | .global g => some (.sc (.pointer (some ⟨g, 0, none⟩)))
  | .func f => some (.sc (.func (.func f) #[] #[]))

def upd (d : Option Tmp) (x : AV) (L : Slots) : Slots := match d with
  | some t => (t, x) :: L
  | none => L

structure RF (A : Nat → Prop) (w : World) (N : Nat) (L : Slots) (a : Act) : Prop where
  size : a.tmps.size = N
  defers : a.defers = []
  at_ : ∀ t x, look L t = some x → R A w x (a.tmps.getD t undef)

theorem RF.ext {A A' : Nat → Prop} {w w' : World} {N : Nat} {L : Slots} {a : Act} (h : RF A w N L a) (he : Ext A w A' w') : RF A' w' N L a :=
  ⟨h.size, h.defers, fun t x hx => (h.at_ t x hx).ext he⟩

theorem RF.get {A : Nat → Prop} {w : World} {N : Nat} {L : Slots} {a : Act} (h : RF A w N L a) {o : Operand} {x : AV} (hx : get L o = some x) : R A w x (a.eval o) := by
  cases o with
  | tmp t => exact h.at_ t x hx
  | const v => simp only [Gw.get, Option.some.injEq] at hx; subst hx; simp only [R, Act.eval]
  | global g => simp only [Gw.get, Option.some.injEq] at hx; subst hx; simp only [R, Act.eval]
  | func f => simp only [Gw.get, Option.some.injEq] at hx; subst hx; simp only [R, Act.eval]

theorem getD_put (a : Act) (d : Nat) (v : Value) (hd : d < a.tmps.size) (t : Nat) : (a.put (some d) v).tmps.getD t undef = if t = d then v else a.tmps.getD t undef := by
  simp only [Act.put, Array.getD_eq_getD_getElem?, Array.getElem?_setIfInBounds]
  by_cases h : d = t
  · subst h; simp [hd]
  · rw [if_neg h, if_neg (fun e => h e.symm)]

theorem RF.put {A : Nat → Prop} {w : World} {N : Nat} {L : Slots} {a : Act} (h : RF A w N L a) {d : Option Tmp} (hd : ∀ t, d = some t → t < N) {x : AV} {v : Value} (hx : R A w x v) : RF A w N (upd d x L) (a.put d v) := by
  cases d with
  | none => exact h
  | some d =>
    have hd' : d < a.tmps.size := by rw [h.size]; exact hd d rfl
    refine ⟨by simp [Act.put, h.size], h.defers, fun t y hy => ?_⟩
    simp only [upd, look_cons] at hy
    rw [getD_put a d v hd' t]
    split at hy
    · rename_i e; rw [if_pos e]; cases hy; exact hx
    · rename_i e; rw [if_neg e]; exact h.at_ t y hy

theorem RF.sub {A : Nat → Prop} {w : World} {N : Nat} {L L' : Slots} {a : Act} (h : RF A w N L a) (hs : ∀ t x, look L' t = some x → look L t = some x) : RF A w N L' a :=
  ⟨h.size, h.defers, fun t x hx => h.at_ t x (hs t x hx)⟩

end Go.Gw
