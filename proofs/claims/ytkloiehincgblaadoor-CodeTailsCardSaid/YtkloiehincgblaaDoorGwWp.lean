/- The program logic's steps: one operation, a region in the text's order, a region in any order, code, a call. -/
import Derived.Test.YtkloiehincgblaaDoorGwBase
import Derived.Deep.LoopGhost
import Derived.Scope
namespace Go.Gw

/-- One operation, said of what its operands hold. -/
def OM (P : Program) (N : Nat) (o : Oper) (L : Slots) (σ : Store) (K : AV → Store → Prop) (E : List PanicEntry → Store → Prop) : Prop :=
  ∀ (A : Nat → Prop) (w : World) (a : Act) (next : Act → World → Prop) (Q : Exit → Act → World → Prop), Good A w σ → a.tmps.size = N →
    (∀ x ∈ o.op.operands, ∀ y, get L x = some y → R A w y (a.eval x)) →
    (∀ A' w' v y σ', Ext A w A' w' → Good A' w' σ' → R A' w' y v → K y σ' → next (a.put o.dst v) w') →
    (∀ A' w' ch σ', Ext A w A' w' → Good A' w' σ' → E ch σ' → Q (.panic ch) a w') → o.wp P a w next Q

theorem OM.mono {P : Program} {N : Nat} {o : Oper} {L : Slots} {σ : Store} {K K' : AV → Store → Prop} {E E' : List PanicEntry → Store → Prop}
    (h : OM P N o L σ K E) (hk : ∀ y σ', K y σ' → K' y σ') (he : ∀ ch σ', E ch σ' → E' ch σ') : OM P N o L σ K' E' :=
  fun A w a next Q hg hn ho h1 h2 => h A w a next Q hg hn ho (fun A' w' v y σ' x1 x2 x3 x4 => h1 A' w' v y σ' x1 x2 x3 (hk _ _ x4)) (fun A' w' ch σ' x1 x2 x3 => h2 A' w' ch σ' x1 x2 (he _ _ x3))

/-- Is an operation wanted: what the slots say of its guard. -/
def gd (ops : Array Oper) (L : Slots) (o : Oper) : Option Bool := match o.guard with
  | none => some true
  | some (j, want) => match (ops[j]?).bind (·.dst) with
    | none => none
    | some t => match look L t with
      | some (.sc (.bool b)) => some (b == want)
      | some (.sc (.tuple _)) => some false
      | _ => none

theorem gd_wanted {ops : Array Oper} {L : Slots} {o : Oper} {r : Bool} {A : Nat → Prop} {w : World} {N : Nat} {a : Act} (h : gd ops L o = some r)
    (hf : ∀ t ∈ o.looksAt ops, ∀ y, look L t = some y → R A w y (a.tmps.getD t undef)) (hn : a.tmps.size = N) : Region.wanted o (yielded ops a.tmps) = r := by
  unfold gd at h
  unfold Region.wanted
  cases hg : o.guard with
  | none => simp only [hg, Option.some.injEq] at h; exact h
  | some p =>
    obtain ⟨j, want⟩ := p
    simp only [hg] at h ⊢
    cases hd : (ops[j]?).bind (·.dst) with
    | none => simp [hd] at h
    | some t =>
      simp only [hd] at h
      have ht : t ∈ o.looksAt ops := by simp [Oper.looksAt, hg, hd]
      cases hl : look L t with
      | none => simp [hl] at h
      | some y =>
        have hr := hf t ht y hl
        rw [hl] at h
        split at h
        · rename_i b e
          cases e
          simp only [R] at hr
          simp only [Option.some.injEq] at h
          have hlt : t < a.tmps.size := by
            rcases Nat.lt_or_ge t a.tmps.size with h' | h'
            · exact h'
            · simp [Array.getD_eq_getD_getElem?, Array.getElem?_eq_none h', undef] at hr
          have hy : yielded ops a.tmps j = some b := by
            unfold yielded
            rw [hd]
            simp only [Option.bind_some]
            rw [Array.getElem?_eq_getElem hlt]
            rw [Array.getD_eq_getD_getElem?, Array.getElem?_eq_getElem hlt, Option.getD_some] at hr
            rw [hr]
          rw [hy, ← h]
          cases b <;> cases want <;> rfl
        · rename_i q e
          cases e
          simp only [R] at hr
          simp only [Option.some.injEq] at h
          subst h
          have hy : yielded ops a.tmps j = none := by
            unfold yielded
            rw [hd]
            simp only [Option.bind_some]
            rw [Array.getD_eq_getD_getElem?] at hr
            cases hq : a.tmps[t]? with
            | none => rfl
            | some u => rw [hq, Option.getD_some] at hr; subst hr; rfl
          rw [hy]
          rfl
        · cases h

/-- One operation, its guard heard. -/
def OMg (P : Program) (N : Nat) (ops : Array Oper) (o : Oper) (L : Slots) (σ : Store) (K : AV → Store → Prop) (E : List PanicEntry → Store → Prop) : Prop :=
  ∀ (A : Nat → Prop) (w : World) (a : Act) (next : Act → World → Prop) (Q : Exit → Act → World → Prop), Good A w σ → a.tmps.size = N →
    (∀ t ∈ o.looksAt ops, ∀ y, look L t = some y → R A w y (a.tmps.getD t undef)) →
    (∀ A' w' v y σ', Ext A w A' w' → Good A' w' σ' → R A' w' y v → K y σ' → next (a.put o.dst v) w') →
    (∀ A' w' ch σ', Ext A w A' w' → Good A' w' σ' → E ch σ' → Q (.panic ch) a w') →
    if Region.wanted o (yielded ops a.tmps) then o.wp P a w next Q else next (a.put o.dst undef) w

theorem OMg.mono {P : Program} {N : Nat} {ops : Array Oper} {o : Oper} {L : Slots} {σ : Store} {K K' : AV → Store → Prop} {E E' : List PanicEntry → Store → Prop}
    (h : OMg P N ops o L σ K E) (hk : ∀ y σ', K y σ' → K' y σ') (he : ∀ ch σ', E ch σ' → E' ch σ') : OMg P N ops o L σ K' E' :=
  fun A w a next Q hg hn ho h1 h2 => h A w a next Q hg hn ho (fun A' w' v y σ' x1 x2 x3 x4 => h1 A' w' v y σ' x1 x2 x3 (hk _ _ x4)) (fun A' w' ch σ' x1 x2 x3 => h2 A' w' ch σ' x1 x2 (he _ _ x3))

theorem eval_of_look {ops : Array Oper} {o : Oper} {L : Slots} {A : Nat → Prop} {w : World} {a : Act}
    (hf : ∀ t ∈ o.looksAt ops, ∀ y, look L t = some y → R A w y (a.tmps.getD t undef)) : ∀ x ∈ o.op.operands, ∀ y, get L x = some y → R A w y (a.eval x) := by
  intro x hx y hy
  cases x with
  | tmp t =>
    refine hf t ?_ y hy
    refine List.mem_append_left _ (List.mem_filterMap.2 ⟨.tmp t, by simpa using hx, rfl⟩)
  | const v => simp only [Gw.get, Option.some.injEq] at hy; subst hy; simp only [R, Act.eval]
  | global g => simp only [Gw.get, Option.some.injEq] at hy; subst hy; simp only [R, Act.eval]
  | func f => simp only [Gw.get, Option.some.injEq] at hy; subst hy; simp only [R, Act.eval]

theorem OMg.run {P : Program} {N : Nat} {ops : Array Oper} {o : Oper} {L : Slots} {σ : Store} {K : AV → Store → Prop} {E : List PanicEntry → Store → Prop}
    (hg : gd ops L o = some true) (h : OM P N o L σ K E) : OMg P N ops o L σ K E := by
  intro A w a next Q hgood hn hf h1 h2
  rw [if_pos (gd_wanted hg hf hn)]
  exact h A w a next Q hgood hn (eval_of_look hf) h1 h2

theorem OMg.skip {P : Program} {N : Nat} {ops : Array Oper} {o : Oper} {L : Slots} {σ : Store} {K : AV → Store → Prop} {E : List PanicEntry → Store → Prop}
    (hg : gd ops L o = some false) (h : K (.sc undef) σ) : OMg P N ops o L σ K E := by
  intro A w a next Q hgood hn hf h1 h2
  rw [if_neg (by simp [gd_wanted hg hf hn])]
  exact h1 A w undef _ σ (Ext.refl A w) hgood (by simp only [R]) h

/-- What stands at the end of a piece of code. -/
def Fin (A : Nat → Prop) (w : World) (N : Nat) (Q : Exit → Slots → Store → Prop) : Exit → Act → World → Prop := fun e a' w' =>
  ∃ A' L' σ', Ext A w A' w' ∧ Good A' w' σ' ∧ RF A' w' N L' a' ∧ Q e L' σ'

theorem Fin.ext {A A1 : Nat → Prop} {w w1 : World} {N : Nat} {Q : Exit → Slots → Store → Prop} (h : Ext A w A1 w1) {e : Exit} {a' : Act} {w' : World} (k : Fin A1 w1 N Q e a' w') : Fin A w N Q e a' w' := by
  obtain ⟨A', L', σ', h1, h2, h3, h4⟩ := k
  exact ⟨A', L', σ', h.trans h1, h2, h3, h4⟩

def Sub (L' L : Slots) : Prop := ∀ t x, look L' t = some x → look L t = some x
theorem Sub.refl (L : Slots) : Sub L L := fun _ _ h => h
theorem Sub.trans {L L1 L2 : Slots} (h : Sub L L1) (k : Sub L1 L2) : Sub L L2 := fun t x hx => k t x (h t x hx)

theorem RF.sub' {A : Nat → Prop} {w : World} {N : Nat} {L L' : Slots} {a : Act} (h : RF A w N L a) (hs : Sub L' L) : RF A w N L' a := h.sub hs
theorem RF.look' {A : Nat → Prop} {w : World} {N : Nat} {L : Slots} {a : Act} (h : RF A w N L a) (S : List Tmp) : ∀ t ∈ S, ∀ y, look L t = some y → R A w y (a.tmps.getD t undef) := fun t _ y hy => h.at_ t y hy

def dstOk (N : Nat) (o : Oper) : Bool := match o.dst with
  | some t => Nat.blt t N
  | none => true
theorem dstOk_lt {N : Nat} {o : Oper} (h : dstOk N o = true) : ∀ t, o.dst = some t → t < N := by
  intro t ht
  unfold dstOk at h
  rw [ht] at h
  exact Nat.le_of_ble_eq_true h

/-- A region in the text's order. -/
def WL (P : Program) (N : Nat) (ops : Array Oper) (l : List Oper) (Q : Exit → Slots → Store → Prop) (L : Slots) (σ : Store) : Prop :=
  ∀ (A : Nat → Prop) (w : World) (a : Act) (Q' : Exit → Act → World → Prop), Good A w σ → RF A w N L a → (∀ e a' w', Fin A w N Q e a' w' → Q' e a' w') → wpList P ops Q' l a w

theorem wl_nil {P : Program} {N : Nat} {ops : Array Oper} {Q : Exit → Slots → Store → Prop} {L : Slots} {σ : Store} (h : Q .normal L σ) : WL P N ops [] Q L σ :=
  fun A w a _ hg hf hq => hq _ _ _ ⟨A, L, σ, Ext.refl A w, hg, hf, h⟩

theorem wl_op {P : Program} {N : Nat} {ops : Array Oper} {o : Oper} {l : List Oper} {Q : Exit → Slots → Store → Prop} {L : Slots} {σ : Store} (hd : dstOk N o = true)
    (h : OMg P N ops o L σ (fun y σ' => WL P N ops l Q (upd o.dst y L) σ') (fun ch σ' => Q (.panic ch) L σ')) : WL P N ops (o :: l) Q L σ := by
  intro A w a Q' hg hf hq
  refine wpList_step fun K hK => ?_
  refine h A w a K Q' hg hf.size (hf.look' _) ?_ ?_
  · intro A' w' v y σ' he hg' hr hk
    exact hK _ _ (hk A' w' (a.put o.dst v) Q' hg' ((hf.ext he).put (dstOk_lt hd) hr) (fun e a' w'' hfin => hq e a' w'' (hfin.ext he)))
  · intro A' w' ch σ' he hg' hk
    exact hq _ _ _ ⟨A', L, σ', he, hg', hf.ext he, hk⟩

theorem wl_run {P : Program} {N : Nat} {ops : Array Oper} {o : Oper} {l : List Oper} {Q : Exit → Slots → Store → Prop} {L : Slots} {σ : Store} (hd : dstOk N o = true) (hg : gd ops L o = some true)
    (h : OM P N o L σ (fun y σ' => WL P N ops l Q (upd o.dst y L) σ') (fun ch σ' => Q (.panic ch) L σ')) : WL P N ops (o :: l) Q L σ := wl_op hd (OMg.run hg h)

theorem wl_skip {P : Program} {N : Nat} {ops : Array Oper} {o : Oper} {l : List Oper} {Q : Exit → Slots → Store → Prop} {L : Slots} {σ : Store} (hd : dstOk N o = true) (hg : gd ops L o = some false)
    (h : WL P N ops l Q (upd o.dst (.sc undef) L) σ) : WL P N ops (o :: l) Q L σ := wl_op hd (OMg.skip hg h)

/-- Code. -/
def WM (P : Program) (N : Nat) (c : Code) (Q : Exit → Slots → Store → Prop) (L : Slots) (σ : Store) : Prop :=
  ∀ (A : Nat → Prop) (w : World) (a : Act), Good A w σ → RF A w N L a → c.wp P (Fin A w N Q) a w

theorem wm_mono {P : Program} {N : Nat} {c : Code} {Q Q' : Exit → Slots → Store → Prop} {L : Slots} {σ : Store} (h : WM P N c Q L σ) (hq : ∀ e L σ, Q e L σ → Q' e L σ) : WM P N c Q' L σ :=
  fun A w a hg hf => wp_mono (h A w a hg hf) fun _ _ _ ⟨A', L', σ', h1, h2, h3, h4⟩ => ⟨A', L', σ', h1, h2, h3, hq _ _ _ h4⟩

theorem wm_sub {P : Program} {N : Nat} {c : Code} {Q : Exit → Slots → Store → Prop} {L L' : Slots} {σ : Store} (hs : Sub L' L) (h : WM P N c Q L' σ) : WM P N c Q L σ :=
  fun A w a hg hf => h A w a hg (hf.sub hs)

theorem wm_less {P : Program} {N : Nat} {c : Code} {Q : Exit → Slots → Store → Prop} {L : Slots} {σ τ : Store} (hs : Less τ σ) (h : WM P N c Q L τ) : WM P N c Q L σ :=
  fun A w a hg hf => h A w a (hg.less hs) hf

theorem wl_less {P : Program} {N : Nat} {ops : Array Oper} {l : List Oper} {Q : Exit → Slots → Store → Prop} {L : Slots} {σ τ : Store} (hs : Less τ σ) (h : WL P N ops l Q L τ) : WL P N ops l Q L σ :=
  fun A w a Q' hg hf hq => h A w a Q' (hg.less hs) hf hq

theorem wl_sub {P : Program} {N : Nat} {ops : Array Oper} {l : List Oper} {Q : Exit → Slots → Store → Prop} {L L' : Slots} {σ : Store} (hs : Sub L' L) (h : WL P N ops l Q L' σ) : WL P N ops l Q L σ :=
  fun A w a Q' hg hf hq => h A w a Q' hg (hf.sub hs) hq

def thenM (next : Slots → Store → Prop) (Q : Exit → Slots → Store → Prop) : Exit → Slots → Store → Prop
  | .normal, L, σ => next L σ
  | e, L, σ => Q e L σ

theorem fin_then {P : Program} {A : Nat → Prop} {w : World} {N : Nat} {y : Code} {Q : Exit → Slots → Store → Prop} {e : Exit} {a' : Act} {w' : World}
    (h : Fin A w N (thenM (fun L σ => WM P N y Q L σ) Q) e a' w') : Exit.then (y.wp P (Fin A w N Q)) (Fin A w N Q) e a' w' := by
  obtain ⟨A', L', σ', h1, h2, h3, h4⟩ := h
  cases e with
  | normal => exact wp_mono (h4 A' w' a' h2 h3) fun _ _ _ k => k.ext h1
  | exit id => exact ⟨A', L', σ', h1, h2, h3, h4⟩
  | goto l => exact ⟨A', L', σ', h1, h2, h3, h4⟩
  | ret => exact ⟨A', L', σ', h1, h2, h3, h4⟩
  | panic ch => exact ⟨A', L', σ', h1, h2, h3, h4⟩
  | outgrown => exact ⟨A', L', σ', h1, h2, h3, h4⟩

theorem wm_seq {P : Program} {N : Nat} {x y : Code} {Q : Exit → Slots → Store → Prop} {L : Slots} {σ : Store} (h : WM P N x (thenM (fun L σ => WM P N y Q L σ) Q) L σ) : WM P N (.seq x y) Q L σ :=
  fun A w a hg hf => wp_seq (wp_mono (h A w a hg hf) fun _ _ _ k => fin_then k)

theorem wm_skip {P : Program} {N : Nat} {Q : Exit → Slots → Store → Prop} {L : Slots} {σ : Store} (h : Q .normal L σ) : WM P N .skip Q L σ :=
  fun A w _ hg hf => wp_skip ⟨A, L, σ, Ext.refl A w, hg, hf, h⟩
theorem wm_ret {P : Program} {N : Nat} {Q : Exit → Slots → Store → Prop} {L : Slots} {σ : Store} (h : Q .ret L σ) : WM P N .ret Q L σ :=
  fun A w _ hg hf => wp_ret ⟨A, L, σ, Ext.refl A w, hg, hf, h⟩
theorem wm_exit {P : Program} {N : Nat} {id : Nat} {Q : Exit → Slots → Store → Prop} {L : Slots} {σ : Store} (h : Q (.exit id) L σ) : WM P N (.exit id) Q L σ :=
  fun A w _ hg hf => wp_exit ⟨A, L, σ, Ext.refl A w, hg, hf, h⟩
theorem wm_label {P : Program} {N : Nat} {l : Nat} {Q : Exit → Slots → Store → Prop} {L : Slots} {σ : Store} (h : Q .normal L σ) : WM P N (.label l) Q L σ :=
  fun A w _ hg hf => wp_label ⟨A, L, σ, Ext.refl A w, hg, hf, h⟩

def blockM (id : Nat) (Q : Exit → Slots → Store → Prop) : Exit → Slots → Store → Prop
  | .exit j, L, σ => cond (Nat.beq j id) (Q .normal L σ) (Q (.exit j) L σ)
  | e, L, σ => Q e L σ

theorem wm_block {P : Program} {N : Nat} {id : Nat} {c : Code} {Q : Exit → Slots → Store → Prop} {L : Slots} {σ : Store} (h : WM P N c (blockM id Q) L σ) : WM P N (.block id c) Q L σ :=
  fun A w a hg hf => wp_block (wp_mono (h A w a hg hf) fun e a' w' ⟨A', L', σ', h1, h2, h3, h4⟩ => by
    cases e with
    | exit j =>
      simp only [blockM] at h4
      simp only [Exit.inBlock]
      by_cases hj : j = id
      · subst hj
        rw [show Nat.beq j j = true from Nat.beq_refl j, cond_true] at h4
        rw [if_pos rfl]
        exact ⟨A', L', σ', h1, h2, h3, h4⟩
      · have hb : Nat.beq j id = false := Bool.eq_false_iff.2 (fun hb => hj (Nat.eq_of_beq_eq_true hb))
        rw [hb, cond_false] at h4
        rw [if_neg hj]
        exact ⟨A', L', σ', h1, h2, h3, h4⟩
    | normal => exact ⟨A', L', σ', h1, h2, h3, h4⟩
    | goto l => exact ⟨A', L', σ', h1, h2, h3, h4⟩
    | ret => exact ⟨A', L', σ', h1, h2, h3, h4⟩
    | panic ch => exact ⟨A', L', σ', h1, h2, h3, h4⟩
    | outgrown => exact ⟨A', L', σ', h1, h2, h3, h4⟩)

theorem wm_cond {P : Program} {N : Nat} {c : Operand} {x y : Code} {b : Bool} {Q : Exit → Slots → Store → Prop} {L : Slots} {σ : Store} (hc : get L c = some (.sc (.bool b)))
    (ht : b = true → WM P N x Q L σ) (hf : b = false → WM P N y Q L σ) : WM P N (.cond c x y) Q L σ :=
  fun A w a hg hr => wp_cond_split (t := b) (by have := hr.get hc; simpa only [R] using this) (fun e => ht e A w a hg hr) (fun e => hf e A w a hg hr)

theorem wm_loop {P : Program} {N : Nat} {ι : Type} {c : Code} {Q : Exit → Slots → Store → Prop} {L : Slots} {σ : Store} (Lv : ι → Slots) (I : ι → Store → Prop) (μ : ι → Nat) (i₀ : ι)
    (hL : Sub (Lv i₀) L) (hI : I i₀ σ)
    (round : ∀ i σ, I i σ → WM P N c (thenM (fun L' σ' => ∃ i' τ, μ i' < μ i ∧ Sub (Lv i') L' ∧ Less τ σ' ∧ I i' τ) Q) (Lv i) σ) : WM P N (.loop c) Q L σ := by
  intro A w a hg hf
  refine wp_loop_ghost (fun n a' w' => ∃ A' i σ', μ i = n ∧ Ext A w A' w' ∧ Good A' w' σ' ∧ RF A' w' N (Lv i) a' ∧ I i σ') (μ i₀) ⟨A, i₀, σ, rfl, Ext.refl A w, hg, hf.sub hL, hI⟩ ?_
  rintro n a1 w1 ⟨A1, i, σ1, rfl, he, hg1, hf1, hi⟩
  refine wp_mono (round i σ1 hi A1 w1 a1 hg1 hf1) ?_
  rintro e a2 w2 ⟨A2, L2, σ2, h1, h2, h3, h4⟩
  cases e with
  | normal =>
    obtain ⟨i', τ, hlt, hs, hle, hi'⟩ := h4
    exact ⟨μ i', hlt, A2, i', τ, rfl, he.trans h1, h2.less hle, h3.sub hs, hi'⟩
  | exit id => exact ⟨A2, L2, σ2, he.trans h1, h2, h3, h4⟩
  | goto l => exact ⟨A2, L2, σ2, he.trans h1, h2, h3, h4⟩
  | ret => exact ⟨A2, L2, σ2, he.trans h1, h2, h3, h4⟩
  | panic ch => exact ⟨A2, L2, σ2, he.trans h1, h2, h3, h4⟩
  | outgrown => exact ⟨A2, L2, σ2, he.trans h1, h2, h3, h4⟩

theorem wm_region {P : Program} {N : Nat} {id : Nat} {l : List Oper} {Q : Exit → Slots → Store → Prop} {L : Slots} {σ : Store} (h : WL P N l.toArray l Q L σ) : WM P N (.region id l.toArray false) Q L σ :=
  fun A w a hg hf => wp_region_lit (h A w a _ hg hf fun _ _ _ k => k)

/-! ### A region in any order -/
def dir (o : Oper) : List Nat := (o.after.toList.filter (Region.binds .any)).map (·.on)
def ancStep (acc : List (List Nat)) (o : Oper) : List (List Nat) := acc ++ [dir o ++ (dir o).flatMap fun k => acc.getD k []]
def ancL (ops : List Oper) : List (List Nat) := ops.foldl ancStep []

/-- All quiet operations come before it. -/
def freeOk (ops : Array Oper) (loud : List Nat) (i : Nat) : Bool := (List.range ops.size).all fun q => loud.contains q || ((ancL ops.toList).getD i []).contains q

def VC (P : Program) (N : Nat) (ops : Array Oper) (J : Store → Prop) (loud : List Nat) (Q : Exit → Slots → Store → Prop) : List Nat → Slots → Store → Prop
  | [], L, σ => ∃ L₀, Sub L₀ L ∧ Q .normal L₀ σ
  | i :: c, L, σ => ∃ o, ops[i]? = some o ∧ dstOk N o = true ∧
    if loud.contains i = true then OMg P N ops o L σ (fun y σ' => (freeOk ops loud i = true ∨ J σ') ∧ VC P N ops J loud Q c (upd o.dst y L) σ') (fun ch σ' => Q (.panic ch) [] σ')
    else ∃ y, (∀ σ, J σ → OMg P N ops o L σ (fun z σ' => z = y ∧ σ' = σ) (fun _ _ => False)) ∧ VC P N ops J loud Q c (upd o.dst y L) σ

inductive Anc (ops : Array Oper) : Nat → Nat → Prop where
  | one {q i : Nat} {o : Oper} (h : ops[i]? = some o) (hq : q ∈ dir o) : Anc ops q i
  | more {q k i : Nat} {o : Oper} (h : ops[i]? = some o) (hk : k ∈ dir o) (hq : Anc ops q k) : Anc ops q i

theorem ancL_ok (ops : Array Oper) : ∀ (l : List Oper) (acc : List (List Nat)), (∀ j o, l[j]? = some o → ops[acc.length + j]? = some o) →
    (∀ k q, q ∈ acc.getD k [] → Anc ops q k) → ∀ k q, q ∈ (l.foldl ancStep acc).getD k [] → Anc ops q k := by
  intro l
  induction l with
  | nil => intro acc _ h; exact h
  | cons o l ih =>
    intro acc hl h
    refine ih (ancStep acc o) (fun j o' hj => ?_) (fun k q hq => ?_)
    · have := hl (j + 1) o' (by simpa using hj)
      simpa [ancStep, Nat.add_assoc, Nat.add_comm 1 j] using this
    · simp only [ancStep, List.getD_eq_getElem?_getD] at hq
      rcases Nat.lt_trichotomy k acc.length with hk | hk | hk
      · rw [List.getElem?_append_left hk] at hq
        exact h k q (by rw [List.getD_eq_getElem?_getD]; exact hq)
      · subst hk
        have ho := hl 0 o (by simp)
        simp only [Nat.add_zero] at ho
        rw [List.getElem?_append_right (Nat.le_refl _), Nat.sub_self, List.getElem?_cons_zero, Option.getD_some] at hq
        rcases List.mem_append.1 hq with hq | hq
        · exact .one ho hq
        · obtain ⟨j, hj, hq⟩ := List.mem_flatMap.1 hq
          exact .more ho hj (h j q hq)
      · rw [List.getElem?_append_right (by omega), List.getElem?_eq_none (by simp; omega)] at hq
        simp at hq

theorem anc_closed {ops : Array Oper} {S : Nat → Prop} (hS : ∀ i o, S i → ops[i]? = some o → ∀ q ∈ dir o, S q) {q i : Nat} (h : Anc ops q i) : ∀ o, ops[i]? = some o → (∀ q ∈ dir o, S q) → S q := by
  induction h with
  | one h hq => intro o ho hd; rw [h] at ho; cases ho; exact hd _ hq
  | more h hk hq ih =>
    intro o' ho hd
    rw [h] at ho
    cases ho
    have hSk := hd _ hk
    cases hq with
    | one h' hq' => exact hS _ _ hSk h' _ hq'
    | more h' hk' hq' => exact ih _ h' (fun q hq => hS _ _ hSk h' q hq)

/-- What is looked at once, by the kernel: the order that the proof goes in is one, its loud operations stand as they have to, quiet ones may be put off. -/
def pairOk (ops : Array Oper) (anc : List (List Nat)) (loud : List Nat) (q i : Nat) : Bool :=
  (anc.getD i []).contains q || (!loud.contains q && (match ops[q]?, ops[i]? with
    | some x, some y => Oper.apart ops x y
    | _, _ => false))
def pairsOk (ops : Array Oper) (anc : List (List Nat)) (loud : List Nat) : List Nat → Bool
  | [] => true
  | q :: c => c.all (pairOk ops anc loud q) && pairsOk ops anc loud c
def topoOk (ops : Array Oper) : List Nat → Bool
  | [] => true
  | i :: c => (match ops[i]? with
    | some o => (dir o).all fun q => Nat.blt q ops.size && !(i :: c).contains q
    | none => false) && topoOk ops c
def distinct : List Nat → Bool
  | [] => true
  | i :: c => !c.contains i && distinct c
def orderOk (ops : Array Oper) (loud c : List Nat) : Bool :=
  (List.range ops.size).all c.contains && c.all (Nat.blt · ops.size) && Nat.ble c.length ops.size && distinct c && topoOk ops c && pairsOk ops (ancL ops.toList) loud c

section
variable {P : Program} {N : Nat} {ops : Array Oper} {J : Store → Prop} {loud : List Nat} {Q : Exit → Slots → Store → Prop}

theorem OMg.look {o : Oper} {L L' : Slots} {σ : Store} {K : AV → Store → Prop} {E : List PanicEntry → Store → Prop} (hs : ∀ t ∈ o.looksAt ops, look L t = look L' t) (h : OMg P N ops o L σ K E) : OMg P N ops o L' σ K E :=
  fun A w a next Q' hg hn hf h1 h2 => h A w a next Q' hg hn (fun t ht y hy => hf t ht y ((hs t ht).symm.trans hy)) h1 h2

theorem vc_look : ∀ (c : List Nat) {L L' : Slots} {σ : Store}, (∀ t, look L t = look L' t) → VC P N ops J loud Q c L σ → VC P N ops J loud Q c L' σ
  | [], L, L', σ, hs, h => by
    obtain ⟨L₀, h1, h2⟩ := h
    exact ⟨L₀, fun t x hx => (hs t).symm.trans (h1 t x hx), h2⟩
  | i :: c, L, L', σ, hs, h => by
    obtain ⟨o, ho, hd, h⟩ := h
    have hu : ∀ y t, look (upd o.dst y L) t = look (upd o.dst y L') t := by
      intro y t
      cases hd : o.dst with
      | none => exact hs t
      | some d => simp only [upd, look_cons, hs t]
    refine ⟨o, ho, hd, ?_⟩
    split
    · rename_i hl
      rw [if_pos hl] at h
      exact (OMg.look (fun t _ => hs t) h).mono (fun y σ' ⟨k1, k2⟩ => ⟨k1, vc_look c (hu y) k2⟩) (fun _ _ k => k)
    · rename_i hl
      rw [if_neg hl] at h
      obtain ⟨y, h1, h2⟩ := h
      exact ⟨y, fun σ hJ => OMg.look (fun t _ => hs t) (h1 σ hJ), vc_look c (hu y) h2⟩

theorem upd_comm {x y : Oper} (h : Oper.apart ops x y = true) (u v : AV) (L : Slots) (t : Nat) : look (upd y.dst v (upd x.dst u L)) t = look (upd x.dst u (upd y.dst v L)) t := by
  obtain ⟨_, h2, _⟩ := Oper.apart_spec h
  cases hx : x.dst with
  | none => rfl
  | some d =>
    cases hy : y.dst with
    | none => rfl
    | some e =>
      have hne : e ≠ d := fun e' => h2 d hx (by rw [hy, e'])
      simp only [upd, look_cons]
      split <;> split <;> simp_all

theorem look_upd_other {x y : Oper} (h : ∀ d, x.dst = some d → d ∉ y.looksAt ops) (u : AV) (L : Slots) : ∀ t ∈ y.looksAt ops, look (upd x.dst u L) t = look L t := by
  intro t ht
  cases hx : x.dst with
  | none => rfl
  | some d =>
    simp only [upd, look_cons]
    rw [if_neg (fun e => h d hx (by rw [← e]; exact ht))]

/-- A quiet operation is put off. -/
theorem vc_swap {q i : Nat} {c : List Nat} {L : Slots} {σ : Store} (hq : loud.contains q = false) (hap : ∀ x y, ops[q]? = some x → ops[i]? = some y → Oper.apart ops x y = true)
    (h : VC P N ops J loud Q (q :: i :: c) L σ) : VC P N ops J loud Q (i :: q :: c) L σ := by
  obtain ⟨x, hx, hdx, h⟩ := h
  rw [if_neg (by rw [hq]; exact Bool.false_ne_true)] at h
  obtain ⟨u, hu, y, hy, hdy, h⟩ := h
  have hap := hap x y hx hy
  obtain ⟨h1, _, h3⟩ := Oper.apart_spec hap
  refine ⟨y, hy, hdy, ?_⟩
  split
  · rename_i hl
    rw [if_pos hl] at h
    refine (OMg.look (look_upd_other h1 u L) h).mono (fun v σ' ⟨k1, k2⟩ => ⟨k1, x, hx, hdx, ?_⟩) (fun _ _ k => k)
    rw [if_neg (by rw [hq]; exact Bool.false_ne_true)]
    refine ⟨u, fun σ hJ => OMg.look (fun t ht => (look_upd_other h3 v L t ht).symm) (hu σ hJ), vc_look c (upd_comm hap u v L) k2⟩
  · rename_i hl
    rw [if_neg hl] at h
    obtain ⟨v, hv, h⟩ := h
    refine ⟨v, fun σ hJ => OMg.look (look_upd_other h1 u L) (hv σ hJ), x, hx, hdx, ?_⟩
    rw [if_neg (by rw [hq]; exact Bool.false_ne_true)]
    exact ⟨u, fun σ hJ => OMg.look (fun t ht => (look_upd_other h3 v L t ht).symm) (hu σ hJ), vc_look c (upd_comm hap u v L) h⟩

theorem vc_front {i : Nat} {c : List Nat} : ∀ (l : List Nat) {L : Slots} {σ : Store}, (∀ q ∈ l, loud.contains q = false ∧ ∀ x y, ops[q]? = some x → ops[i]? = some y → Oper.apart ops x y = true) →
    VC P N ops J loud Q (l ++ i :: c) L σ → VC P N ops J loud Q (i :: (l ++ c)) L σ
  | [], _, _, _, h => h
  | q :: l, L, σ, hl, h => by
    refine vc_swap (hl q (by simp)).1 (hl q (by simp)).2 ?_
    obtain ⟨x, hx, hdx, h⟩ := h
    refine ⟨x, hx, hdx, ?_⟩
    rw [if_neg (by rw [(hl q (by simp)).1]; exact Bool.false_ne_true)] at h ⊢
    obtain ⟨u, hu, h⟩ := h
    exact ⟨u, hu, vc_front l (fun q hq => hl q (by simp [hq])) h⟩

theorem pairsOk_mid {anc : List (List Nat)} {i : Nat} {c : List Nat} : ∀ (l : List Nat), pairsOk ops anc loud (l ++ i :: c) = true → (∀ q ∈ l, pairOk ops anc loud q i = true) ∧ pairsOk ops anc loud (l ++ c) = true
  | [], h => by
    simp only [List.nil_append, pairsOk, Bool.and_eq_true] at h
    exact ⟨by simp, h.2⟩
  | q :: l, h => by
    simp only [List.cons_append, pairsOk, Bool.and_eq_true, List.all_append, List.all_cons] at h
    obtain ⟨h1, h2⟩ := pairsOk_mid l h.2
    refine ⟨fun r hr => ?_, ?_⟩
    · rcases List.mem_cons.1 hr with e | e
      · subst e; exact h.1.2.1
      · exact h1 r e
    · simp only [List.cons_append, pairsOk, Bool.and_eq_true, List.all_append]
      exact ⟨⟨h.1.1, h.1.2.2⟩, h2⟩

theorem topoOk_mid {i : Nat} {c : List Nat} : ∀ (l : List Nat), topoOk ops (l ++ i :: c) = true → topoOk ops (l ++ c) = true
  | [], h => by
    simp only [List.nil_append, topoOk, Bool.and_eq_true] at h
    exact h.2
  | q :: l, h => by
    simp only [List.cons_append, topoOk, Bool.and_eq_true] at h
    simp only [List.cons_append, topoOk, Bool.and_eq_true]
    refine ⟨?_, topoOk_mid l h.2⟩
    have h1 := h.1
    split at h1
    · rename_i o ho
      refine List.all_eq_true.2 fun r hr => ?_
      have := List.all_eq_true.1 h1 r hr
      simp only [Bool.and_eq_true, Bool.not_eq_true', List.contains_cons, List.contains_append, Bool.or_eq_false_iff] at this ⊢
      exact ⟨this.1, this.2.1, this.2.2.1, this.2.2.2.2⟩
    · cases h1

theorem distinct_mid {i : Nat} {c : List Nat} : ∀ (l : List Nat), distinct (l ++ i :: c) = true → distinct (l ++ c) = true ∧ i ∉ l ++ c
  | [], h => by
    simp only [List.nil_append, distinct, Bool.and_eq_true, Bool.not_eq_true', List.contains_eq_mem, decide_eq_false_iff_not] at h
    exact ⟨h.2, by simpa using h.1⟩
  | q :: l, h => by
    simp only [List.cons_append, distinct, Bool.and_eq_true, Bool.not_eq_true', List.contains_eq_mem, decide_eq_false_iff_not, List.mem_append, List.mem_cons, not_or] at h
    obtain ⟨h1, h2⟩ := distinct_mid l h.2
    simp only [List.cons_append, distinct, Bool.and_eq_true, Bool.not_eq_true', List.contains_eq_mem, decide_eq_false_iff_not, List.mem_append, List.mem_cons, not_or] at h2 ⊢
    exact ⟨⟨⟨h.1.1, h.1.2.2⟩, h1⟩, fun e => h.1.2.1 e.symm, h2⟩

theorem mem_ready {listed : Array Bool} {i : Nat} (h : i ∈ Region.ready .any ops listed) : i < ops.size ∧ listed.getD i true = false ∧ ∃ o, ops[i]? = some o ∧ ∀ q ∈ dir o, listed.getD q false = true := by
  unfold Region.ready at h
  obtain ⟨h1, h2⟩ := List.mem_filter.1 h
  have hi : i < ops.size := by simpa using h1
  simp only [Bool.and_eq_true, Bool.not_eq_true'] at h2
  refine ⟨hi, h2.1, ops[i], Array.getElem?_eq_getElem hi, fun q hq => ?_⟩
  have h3 := h2.2
  rw [Array.getElem?_eq_getElem hi, Option.map_some, Option.getD_some] at h3
  obtain ⟨e, he, rfl⟩ := List.mem_map.1 hq
  obtain ⟨he1, he2⟩ := List.mem_filter.1 he
  have := Array.all_eq_true'.1 h3 e (by simpa using he1)
  rw [he2] at this
  simpa using this

theorem ready_of {listed : Array Bool} {i : Nat} {o : Oper} (ho : ops[i]? = some o) (hl : listed.getD i true = false) (hd : ∀ q ∈ dir o, listed.getD q false = true) : i ∈ Region.ready .any ops listed := by
  have hi : i < ops.size := (Array.getElem?_eq_some_iff.1 ho).1
  unfold Region.ready
  refine List.mem_filter.2 ⟨by simpa using hi, ?_⟩
  rw [hl, ho, Option.map_some, Option.getD_some, Bool.not_false, Bool.true_and]
  refine Array.all_eq_true'.2 fun e he => ?_
  cases hb : Region.binds .any e with
  | false => rfl
  | true => simpa using hd e.on (List.mem_map.2 ⟨e, List.mem_filter.2 ⟨by simpa using he, hb⟩, rfl⟩)

theorem set_getD {listed : Array Bool} {i : Nat} (hi : i < listed.size) (j : Nat) (d : Bool) : (listed.setIfInBounds i true).getD j d = if j = i then true else listed.getD j d := by
  simp only [Array.getD_eq_getD_getElem?, Array.getElem?_setIfInBounds]
  by_cases h : i = j
  · subst h; simp [hi]
  · rw [if_neg h, if_neg (fun e => h e.symm)]

theorem drawn_sound (Q' : Exit → Act → World → Prop) : ∀ (fuel : Nat) (c : List Nat) (listed : Array Bool) (A : Nat → Prop) (a : Act) (w : World) (L : Slots) (σ : Store),
    listed.size = ops.size → c.length ≤ fuel → (∀ i, i < ops.size → (listed.getD i true = false ↔ i ∈ c)) → (∀ i ∈ c, i < ops.size) →
    (∀ i o, listed.getD i false = true → ops[i]? = some o → ∀ q ∈ dir o, listed.getD q false = true) →
    distinct c = true → topoOk ops c = true → pairsOk ops (ancL ops.toList) loud c = true →
    Good A w σ → RF A w N L a → (J σ ∨ ∀ q ∈ c, loud.contains q = true) → VC P N ops J loud Q c L σ → (∀ e a' w', Fin A w N Q e a' w' → Q' e a' w') → wpAny P .any ops Q' fuel listed a w := by
  have hanc : ∀ k q, q ∈ (ancL ops.toList).getD k [] → Anc ops q k :=
    ancL_ok ops ops.toList [] (fun j o hj => by simpa using hj) (fun k q hq => by simp at hq)
  intro fuel
  induction fuel with
  | zero =>
    intro c listed A a w L σ hsz hlen hc hlt hcl hdis htop hpair hg hf hJ hvc hq
    have : c = [] := List.eq_nil_of_length_eq_zero (by omega)
    subst this
    obtain ⟨L₀, h1, h2⟩ := hvc
    refine ⟨?_, hq _ _ _ ⟨A, L₀, σ, Ext.refl A w, hg, hf.sub h1, h2⟩⟩
    cases hr : Region.ready .any ops listed with
    | nil => rfl
    | cons i rs =>
      obtain ⟨hi, hl, _⟩ := mem_ready (hr ▸ List.mem_cons_self : i ∈ Region.ready .any ops listed)
      exact absurd ((hc i hi).1 hl) (by simp)
  | succ fuel ih =>
    intro c listed A a w L σ hsz hlen hc hlt hcl hdis htop hpair hg hf hJ hvc hq
    refine ⟨fun hr => ?_, fun i hi => ?_⟩
    · cases c with
      | nil =>
        obtain ⟨L₀, h1, h2⟩ := hvc
        exact hq _ _ _ ⟨A, L₀, σ, Ext.refl A w, hg, hf.sub h1, h2⟩
      | cons i c =>
        have hi := hlt i (by simp)
        simp only [topoOk, Bool.and_eq_true] at htop
        have ht := htop.1
        rw [Array.getElem?_eq_getElem hi] at ht
        have hmem : i ∈ Region.ready .any ops listed := by
          refine ready_of (Array.getElem?_eq_getElem hi) ((hc i hi).2 (by simp)) (fun q hq => ?_)
          have := List.all_eq_true.1 ht q hq
          simp only [Bool.and_eq_true, Bool.not_eq_true', List.contains_eq_mem, decide_eq_false_iff_not] at this
          have hqs : q < ops.size := Nat.le_of_ble_eq_true this.1
          have hne : ¬ listed.getD q true = false := fun e => this.2 ((hc q hqs).1 e)
          rw [Array.getD_eq_getD_getElem?, Array.getElem?_eq_getElem (by omega), Option.getD_some] at hne ⊢
          simpa using hne
        rw [hr] at hmem
        cases hmem
    · obtain ⟨hlti, hl, o, ho, hdir⟩ := mem_ready hi
      have hic := (hc i hlti).1 hl
      obtain ⟨l, c', rfl⟩ := List.append_of_mem hic
      obtain ⟨hp1, hp2⟩ := pairsOk_mid l hpair
      obtain ⟨hd1, hd2⟩ := distinct_mid l hdis
      have hquiet : ∀ q ∈ l, loud.contains q = false ∧ ∀ x y, ops[q]? = some x → ops[i]? = some y → Oper.apart ops x y = true := by
        intro q hql
        have hqc : q ∈ l ++ i :: c' := List.mem_append_left _ hql
        have hqlt := hlt q hqc
        have hqn : listed.getD q true = false := (hc q hqlt).2 hqc
        have hqn' : ¬ listed.getD q false = true := by
          rw [Array.getD_eq_getD_getElem?, Array.getElem?_eq_getElem (by omega), Option.getD_some] at hqn ⊢
          simp [hqn]
        have hpq := hp1 q hql
        unfold pairOk at hpq
        rcases (Bool.or_eq_true _ _).mp hpq with h | h
        · exfalso
          have hmem : q ∈ (ancL ops.toList).getD i [] := by simpa using h
          exact hqn' (anc_closed (S := fun k => listed.getD k false = true) hcl (hanc i q hmem) o ho hdir)
        · simp only [Bool.and_eq_true, Bool.not_eq_true'] at h
          refine ⟨h.1, fun x y hx hy => ?_⟩
          have h2 := h.2
          rw [hx, hy] at h2
          exact h2
      obtain ⟨o', ho', hdo, hv⟩ := vc_front l hquiet hvc
      rw [ho] at ho'
      cases ho'
      have hnext : ∀ (A' : Nat → Prop) (w' : World) (v : Value) (y : AV) (σ' : Store), Ext A w A' w' → Good A' w' σ' → R A' w' y v → (J σ' ∨ ∀ q ∈ l ++ c', loud.contains q = true) → VC P N ops J loud Q (l ++ c') (upd o.dst y L) σ' →
          wpAny P .any ops Q' fuel (listed.setIfInBounds i true) (a.put o.dst v) w' := by
        intro A' w' v y σ' he hg' hr hJ' hvc'
        have hsl : i < listed.size := by omega
        refine ih (l ++ c') (listed.setIfInBounds i true) A' (a.put o.dst v) w' (upd o.dst y L) σ' (by simpa using hsz) (by simp at hlen ⊢; omega) ?_ (fun j hj => hlt j (by simp only [List.mem_append, List.mem_cons] at hj ⊢; rcases hj with hj | hj; exact .inl hj; exact .inr (.inr hj))) ?_ hd1 (topoOk_mid l htop) hp2 hg'
          ((hf.ext he).put (dstOk_lt hdo) hr) hJ' hvc' (fun e a' w'' k => hq e a' w'' (k.ext he))
        · intro j hj
          rw [set_getD hsl]
          by_cases e : j = i
          · subst e
            simpa using hd2
          · rw [if_neg e, hc j hj]
            simp [e]
        · intro j o' hj ho' q hq
          rw [set_getD hsl] at hj ⊢
          by_cases e : q = i
          · rw [if_pos e]
          · rw [if_neg e]
            by_cases e' : j = i
            · subst e'
              rw [ho] at ho'
              cases ho'
              exact hdir q hq
            · rw [if_neg e'] at hj
              exact hcl j o' hj ho' q hq
      unfold wpOp
      rw [ho]
      simp only
      have hgoal : if Region.wanted o (yielded ops a.tmps) then o.wp P a w (wpAny P .any ops Q' fuel (listed.setIfInBounds i true)) Q' else wpAny P .any ops Q' fuel (listed.setIfInBounds i true) (a.put o.dst undef) w := by
        split at hv
        · refine hv A w a _ Q' hg hf.size (hf.look' _) ?_ ?_
          · intro A' w' v y σ' he hg' hr ⟨hJ', hvc'⟩
            refine hnext A' w' v y σ' he hg' hr (hJ'.symm.imp id fun hfree q hq => ?_) hvc'
            have hqc : q ∈ l ++ i :: c' := by
              rcases List.mem_append.1 hq with h | h
              · exact List.mem_append_left _ h
              · exact List.mem_append_right _ (List.mem_cons_of_mem _ h)
            have hqlt := hlt q hqc
            have hqn : listed.getD q true = false := (hc q hqlt).2 hqc
            have hqn' : ¬ listed.getD q false = true := by
              rw [Array.getD_eq_getD_getElem?, Array.getElem?_eq_getElem (by omega), Option.getD_some] at hqn ⊢
              simp [hqn]
            have hf2 := List.all_eq_true.1 hfree q (by simpa using hqlt)
            rcases (Bool.or_eq_true _ _).mp hf2 with h | h
            · exact h
            · exfalso
              have hmem : q ∈ (ancL ops.toList).getD i [] := by simpa using h
              exact hqn' (anc_closed (S := fun k => listed.getD k false = true) hcl (hanc i q hmem) o ho hdir)
          · intro A' w' ch σ' he hg' hk
            exact hq _ _ _ ⟨A', [], σ', he, hg', (hf.ext he).sub (fun t x hx => by cases hx), hk⟩
        · rename_i hnl
          have hJ0 : J σ := hJ.resolve_right fun h => hnl (h i hic)
          obtain ⟨y, hy, hv⟩ := hv
          refine hy σ hJ0 A w a _ Q' hg hf.size (hf.look' _) ?_ ?_
          · rintro A' w' v z σ' he hg' hr ⟨rfl, rfl⟩
            exact hnext A' w' v z σ' he hg' hr (.inl hJ0) hv
          · intro A' w' ch σ' _ _ hk
            exact hk.elim
      split
      · rename_i hw
        rw [if_pos hw] at hgoal
        exact .inl hgoal
      · rename_i hw
        rw [if_neg hw] at hgoal
        exact hgoal
end

theorem wm_drawn {P : Program} {N : Nat} {id : Nat} {ops : Array Oper} {Q : Exit → Slots → Store → Prop} {L : Slots} {σ : Store} (J : Store → Prop) (loud c : List Nat)
    (hm : P.follows .mixedOrders = true) (hc : orderOk ops loud c = true) (hJ : J σ) (h : VC P N ops J loud Q c L σ) : WM P N (.region id ops true) Q L σ := by
  intro A w a hg hf
  simp only [orderOk, Bool.and_eq_true] at hc
  obtain ⟨⟨⟨⟨⟨h1, h5⟩, h6⟩, h2⟩, h3⟩, h4⟩ := hc
  have hall : ∀ i, i < ops.size → i ∈ c := fun i hi => by simpa using List.all_eq_true.1 h1 i (by simpa using hi)
  have hlt : ∀ i ∈ c, i < ops.size := fun i hi => Nat.le_of_ble_eq_true (List.all_eq_true.1 h5 i hi)
  have hlen : c.length ≤ ops.size := Nat.le_of_ble_eq_true h6
  refine wp_region_any hm ?_
  have hdrew : Ext A w A { w with drawn := w.drawn + 1 } := ⟨fun _ h => h, fun _ _ => rfl, Nat.le_refl _, rfl, rfl, rfl⟩
  have hg' : Good A { w with drawn := w.drawn + 1 } σ := ⟨hg.inb, hg.away, fun k o hk => RO.ext hdrew rfl (hg.own k o hk)⟩
  refine drawn_sound (Q := Q) (J := J) (loud := loud) _ ops.size c _ A a _ L σ (by simp) hlen (fun i hi => ?_) hlt (fun i o hi => ?_) h2 h3 h4 hg' (hf.ext hdrew) (.inl hJ) h (fun e a' w' k => k.ext hdrew)
  · simp [Array.getD_eq_getD_getElem?, hi, hall i hi]
  · simp only [Array.getD_eq_getD_getElem?, Array.getElem?_replicate] at hi
    split at hi <;> simp at hi

/-! ### A call -/
inductive AEnd where
  | ret (x : AV)
  | pan (ch : List PanicEntry)

def REnd (A : Nat → Prop) (w : World) : AEnd → Ending → Prop
  | .ret x, .returned v => R A w x v
  | .pan ch, .panicked ch' => ch' = ch
  | _, _ => False

/-- What a call does, said of what the arguments hold and of the owned blocks. -/
def CM (P : Program) (f : FuncId) (args : List AV) (σ : Store) (Q : AEnd → Store → Prop) : Prop :=
  ∀ (A : Nat → Prop) (w : World) (vs : List Value), Good A w σ → RL A w args vs →
    Calls P f vs.toArray w fun e w' => ∃ A' σ' e', Ext A w A' w' ∧ Good A' w' σ' ∧ REnd A' w' e' e ∧ Q e' σ'

theorem CM.mono {P : Program} {f : FuncId} {args : List AV} {σ : Store} {Q Q' : AEnd → Store → Prop} (h : CM P f args σ Q) (hq : ∀ e σ', Q e σ' → Q' e σ') : CM P f args σ Q' :=
  fun A w vs hg hr => (h A w vs hg hr).mono fun _ _ ⟨A', σ', e', h1, h2, h3, h4⟩ => ⟨A', σ', e', h1, h2, h3, hq _ _ h4⟩

/-- It returns this and leaves the owned blocks as they were. -/
def Ret (x : AV) (σ : Store) : AEnd → Store → Prop := fun e σ' => e = .ret x ∧ σ' = σ

def args0 : Nat → List AV → Slots
  | _, [] => []
  | i, x :: xs => (i, x) :: args0 (i + 1) xs

theorem args0_look : ∀ (xs : List AV) (i t : Nat) (x : AV), look (args0 i xs) t = some x → i ≤ t ∧ xs[t - i]? = some x
  | [], _, _, _, h => by cases h
  | y :: ys, i, t, x, h => by
    simp only [args0, look_cons] at h
    split at h
    · rename_i e; subst e; cases h; simp
    · rename_i e
      obtain ⟨h1, h2⟩ := args0_look ys (i + 1) t x h
      refine ⟨by omega, ?_⟩
      have : t - i = (t - (i + 1)) + 1 := by omega
      rw [this, List.getElem?_cons_succ]
      exact h2

theorem RL.get {A : Nat → Prop} {w : World} : ∀ {xs : List AV} {vs : List Value}, RL A w xs vs → ∀ (j : Nat) (x : AV), xs[j]? = some x → ∃ v, vs[j]? = some v ∧ R A w x v
  | [], _, _, j, x, h => by simp at h
  | y :: ys, vs, hr, j, x, h => by
    simp only [RL] at hr
    obtain ⟨v, r, rfl, h1, h2⟩ := hr
    cases j with
    | zero => simp at h; subst h; exact ⟨v, by simp, h1⟩
    | succ j =>
      obtain ⟨u, h3, h4⟩ := RL.get h2 j x (by simpa using h)
      exact ⟨u, by simpa using h3, h4⟩

theorem RL.length {A : Nat → Prop} {w : World} : ∀ {xs : List AV} {vs : List Value}, RL A w xs vs → vs.length = xs.length
  | [], _, hr => by simp only [RL] at hr; subst hr; rfl
  | y :: ys, vs, hr => by
    simp only [RL] at hr
    obtain ⟨v, r, rfl, _, h2⟩ := hr
    simp [RL.length h2]

/-- What the results are. -/
def ResM (P : Program) (fn : Func) (N : Nat) (L : Slots) (σ : Store) (x : AV) : Prop :=
  ∀ (A : Nat → Prop) (w : World) (a : Act), Good A w σ → RF A w N L a → ∃ v, (results fn a.tmps).run P w = .ok v w ∧ R A w x v

def bodyQ (P : Program) (fn : Func) (N : Nat) (Q : AEnd → Store → Prop) : Exit → Slots → Store → Prop
  | .normal, L, σ | .ret, L, σ => ∃ x τ, ResM P fn N L σ x ∧ Less τ σ ∧ Q (.ret x) τ
  | .panic ch, _, σ => ∃ τ, Less τ σ ∧ Q (.pan ch) τ
  | _, _, _ => False

theorem cm_enter {P : Program} {f : FuncId} {fn : Func} {c : Code} {N : Nat} {args : List AV} {σ : Store} {Q : AEnd → Store → Prop} (hf : P.funcs[f]? = some fn) (hb : fn.body = some c) (hN : fn.ntmps = N)
    (hl : Nat.ble args.length N = true) (h : WM P N c (bodyQ P fn N Q) (args0 0 args) σ) : CM P f args σ Q := by
  intro A w vs hg hr
  have hlen := hr.length
  have hle : args.length ≤ N := Nat.le_of_ble_eq_true hl
  refine calls_of_wp hf hb (wp_mono (h A w _ hg ⟨?_, rfl, ?_⟩) ?_)
  · simp [hN]; omega
  · intro t x hx
    obtain ⟨_, h2⟩ := args0_look args 0 t x hx
    obtain ⟨v, h3, h4⟩ := hr.get _ x h2
    rw [Nat.sub_zero] at h3
    have hlt : t < vs.length := (List.getElem?_eq_some_iff.1 h3).1
    have : (vs.toArray ++ Array.replicate (fn.ntmps - vs.toArray.size) undef).getD t undef = v := by
      rw [Array.getD_eq_getD_getElem?, Array.getElem?_append_left (by simpa using hlt)]
      simp [h3]
    rw [this]
    exact h4
  · rintro e a' w' ⟨A', L', σ', h1, h2, h3, h4⟩
    cases e with
    | normal =>
      obtain ⟨x, τ, hx, hle, hq⟩ := h4
      obtain ⟨v, hv, hrv⟩ := hx A' w' a' h2 h3
      exact ⟨h3.defers, v, hv, A', τ, .ret x, h1, h2.less hle, hrv, hq⟩
    | ret =>
      obtain ⟨x, τ, hx, hle, hq⟩ := h4
      obtain ⟨v, hv, hrv⟩ := hx A' w' a' h2 h3
      exact ⟨h3.defers, v, hv, A', τ, .ret x, h1, h2.less hle, hrv, hq⟩
    | panic ch =>
      obtain ⟨τ, hle, hq⟩ := h4
      exact ⟨h3.defers, A', τ, .pan ch, h1, h2.less hle, rfl, hq⟩
    | exit id => exact h4.elim
    | goto l => exact h4.elim
    | outgrown => exact h4.elim

end Go.Gw
