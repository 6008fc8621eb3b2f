/- The owned part of memory told as a list, each part by its place in it. -/
import Derived.Test.YtkloiehincgblaaDoorGwPut
namespace Go.Gw

inductive HE where
  | blk (k : Nat) (o : AObj)
  | acc (a : Acc) (el e : Nat) (xs : List AV)
  | frm (τ : Store)

def Store.one (k : Nat) (o : AObj) : Store := fun j => if j = k then some o else none
def Store.minus (σ τ : Store) : Store := fun j => match τ j with
  | some _ => none
  | none => σ j

def HE.st : HE → Store
  | .blk k o => Store.one k o
  | .acc none _ _ _ => fun _ => none
  | .acc (some (k, c)) el e xs => Store.one k (.cells el (c * e) (flat xs))
  | .frm τ => τ
def HE.ok : HE → Prop
  | .acc none _ _ xs => xs = []
  | .acc (some (_, c)) _ _ xs => xs.length ≤ c ∧ c ≤ maxC
  | _ => True

/-- The parts lie apart in a store. -/
def Has : List HE → Store → Prop
  | [], _ => True
  | h :: H, σ => h.ok ∧ Less h.st σ ∧ Has H (σ.minus h.st)

theorem minus_less (σ τ : Store) : Less (σ.minus τ) σ := fun k o h => by
  simp only [Store.minus] at h
  split at h
  · cases h
  · exact h
theorem minus_mono {σ σ' : Store} (h : Less σ σ') (τ : Store) : Less (σ.minus τ) (σ'.minus τ) := fun k o hk => by
  simp only [Store.minus] at hk ⊢
  split at hk
  · cases hk
  · exact h k o hk
theorem minus_comm (σ τ ρ : Store) : (σ.minus τ).minus ρ = (σ.minus ρ).minus τ := by
  funext j; simp only [Store.minus]; split <;> split <;> rfl

theorem Has.mono : ∀ {H : List HE} {σ σ' : Store}, Less σ σ' → Has H σ → Has H σ'
  | [], _, _, _, _ => trivial
  | _ :: _, _, _, hl, ⟨h1, h2, h3⟩ => ⟨h1, h2.trans hl, h3.mono (minus_mono hl _)⟩
theorem Has.tail {h : HE} {H : List HE} {σ : Store} (k : Has (h :: H) σ) : Has H σ := k.2.2.mono (minus_less _ _)
theorem Has.swap {a b : HE} {H : List HE} {σ : Store} : Has (a :: b :: H) σ → Has (b :: a :: H) σ := by
  rintro ⟨h1, h2, h3, h4, h5⟩
  refine ⟨h3, h4.trans (minus_less _ _), h1, fun k o hk => ?_, ?_⟩
  · simp only [Store.minus]
    cases hb : b.st k with
    | none => exact h2 k o hk
    | some p => have := h4 k p hb; simp [Store.minus, hk] at this
  · rw [minus_comm]; exact h5

def cut1 : Nat → List HE → Option (HE × List HE)
  | _, [] => none
  | 0, h :: H => some (h, H)
  | n + 1, h :: H => match cut1 n H with
    | some (x, R) => some (x, h :: R)
    | none => none
theorem has_cut1 : ∀ {n : Nat} {H R : List HE} {x : HE} {σ : Store}, cut1 n H = some (x, R) → (Has H σ ↔ Has (x :: R) σ)
  | _, [], _, _, _, h => by simp [cut1] at h
  | 0, h :: H, R, x, σ, e => by simp only [cut1, Option.some.injEq, Prod.mk.injEq] at e; obtain ⟨rfl, rfl⟩ := e; exact Iff.rfl
  | n + 1, h :: H, R, x, σ, e => by
    simp only [cut1] at e
    split at e
    · rename_i y R' he
      simp only [Option.some.injEq, Prod.mk.injEq] at e
      obtain ⟨rfl, rfl⟩ := e
      constructor
      · rintro ⟨h1, h2, h3⟩
        exact Has.swap ⟨h1, h2, (has_cut1 he).1 h3⟩
      · intro hk
        obtain ⟨h1, h2, h3⟩ := hk.swap
        exact ⟨h1, h2, (has_cut1 he).2 h3⟩
    · cases e
def cuts : List Nat → List HE → Option (List HE × List HE)
  | [], H => some ([], H)
  | i :: is, H => match cut1 i H with
    | some (x, R) => match cuts is R with
      | some (xs, R') => some (x :: xs, R')
      | none => none
    | none => none
theorem has_cuts : ∀ {is : List Nat} {H X R : List HE} {σ : Store}, cuts is H = some (X, R) → (Has H σ ↔ Has (X ++ R) σ)
  | [], H, X, R, σ, h => by simp only [cuts, Option.some.injEq, Prod.mk.injEq] at h; obtain ⟨rfl, rfl⟩ := h; exact Iff.rfl
  | i :: is, H, X, R, σ, h => by
    simp only [cuts] at h
    split at h
    · rename_i x R1 h1
      split at h
      · rename_i xs R2 h2
        simp only [Option.some.injEq, Prod.mk.injEq] at h
        obtain ⟨rfl, rfl⟩ := h
        rw [has_cut1 h1]
        constructor
        · rintro ⟨k1, k2, k3⟩; exact ⟨k1, k2, (has_cuts h2).1 k3⟩
        · rintro ⟨k1, k2, k3⟩; exact ⟨k1, k2, (has_cuts h2).2 k3⟩
      · cases h
    · cases h

theorem has_frm {σ : Store} : Has [.frm σ] σ := ⟨trivial, Less.refl _, trivial⟩
theorem has_join : ∀ {Y R : List HE} {τ σ : Store}, Has R τ → Has (Y ++ [.frm τ]) σ → Has (Y ++ R) σ
  | [], R, τ, σ, hr, h => hr.mono h.2.1
  | y :: Y, R, τ, σ, hr, h => ⟨h.1, h.2.1, has_join hr h.2.2⟩
theorem has_split : ∀ {X R : List HE} {σ : Store}, Has (X ++ R) σ → ∃ τ, Has R τ ∧ Has (X ++ [.frm τ]) σ
  | [], R, σ, h => ⟨σ, h, has_frm⟩
  | x :: X, R, σ, h => let ⟨τ, h1, h2⟩ := has_split h.2.2; ⟨τ, h1, h.1, h.2.1, h2⟩

/-- One list of parts is among another. -/
def SubH (H1 H : List HE) : Prop := ∀ σ, Has H σ → Has H1 σ
theorem sub_all (H : List HE) : SubH H H := fun _ h => h
theorem has_left : ∀ {X R : List HE} {σ : Store}, Has (X ++ R) σ → Has X σ
  | [], _, _, _ => trivial
  | _ :: _, _, _, h => ⟨h.1, h.2.1, has_left h.2.2⟩
theorem sub_cuts {is : List Nat} {H X R : List HE} (h : cuts is H = some (X, R)) : SubH X H := fun _ hk => has_left ((has_cuts h).1 hk)
theorem SubH.trans {A B C : List HE} (h : SubH A B) (k : SubH B C) : SubH A C := fun σ hs => h σ (k σ hs)

theorem one_same (k : Nat) (o : AObj) : Store.one k o k = some o := by simp [Store.one]
theorem has_blk {k : Nat} {o : AObj} {R : List HE} {σ : Store} (h : Has (.blk k o :: R) σ) : σ k = some o := h.2.1 k o (one_same k o)
theorem has_set {k : Nat} {o o' : AObj} {R : List HE} {σ : Store} (h : Has (.blk k o :: R) σ) : Has (.blk k o' :: R) (σ.set k o') := by
  refine ⟨trivial, fun j p hj => ?_, ?_⟩
  · simp only [HE.st, Store.one] at hj
    split at hj
    · rename_i e; subst e; rw [Store.set_same]; exact hj
    · cases hj
  · have : (σ.set k o').minus (HE.blk k o').st = σ.minus (HE.blk k o).st := by
      funext j
      simp only [Store.minus, HE.st, Store.one, Store.set]
      by_cases e : j = k <;> simp [e]
    rw [this]; exact h.2.2
theorem has_new {k : Nat} {o : AObj} {H : List HE} {σ : Store} (hk : σ k = none) (h : Has H σ) : Has (.blk k o :: H) (σ.set k o) := by
  refine ⟨trivial, fun j p hj => ?_, ?_⟩
  · simp only [HE.st, Store.one] at hj
    split at hj
    · rename_i e; subst e; rw [Store.set_same]; exact hj
    · cases hj
  · have : (σ.set k o).minus (HE.blk k o).st = σ := by
      funext j
      simp only [Store.minus, HE.st, Store.one, Store.set]
      by_cases e : j = k
      · subst e; simp [hk]
      · simp [e]
    rw [this]; exact h
theorem has_gone {k : Nat} {o : AObj} {R : List HE} {σ : Store} (h : Has (.blk k o :: R) σ) : Has R (σ.drop k) := by
  have : σ.minus (HE.blk k o).st = σ.drop k := by
    funext j
    simp only [Store.minus, HE.st, Store.one, Store.drop]
    by_cases e : j = k <;> simp [e]
  have h3 := h.2.2
  rw [this] at h3
  exact h3

theorem has_acc {α : Type} {a : Acc} {el e : Nat} {f : α → AV} {xs : List α} {R : List HE} {σ : Store} (h : Has (.acc a el e (xs.map f) :: R) σ) : ∃ τ, Has R τ ∧ accOk τ a xs.length ∧ σ = accS τ a el e f xs := by
  obtain ⟨h1, h2, h3⟩ := h
  obtain _ | ⟨k, c⟩ := a
  · have h1' : xs = [] := by simpa [HE.ok] using h1
    subst h1'
    exact ⟨σ, h3.mono (minus_less _ _), rfl, rfl⟩
  · simp only [HE.ok, List.length_map] at h1
    refine ⟨_, h3, ⟨?_, h1⟩, ?_⟩
    · simp [Store.minus, HE.st, Store.one]
    · have hk := h2 k _ (one_same k _)
      funext j
      simp only [accS, Store.set, Store.minus, HE.st, Store.one]
      by_cases e : j = k
      · subst e; rw [if_pos rfl]; exact hk
      · simp [e]
theorem has_acc_mk {α : Type} {a : Acc} {el e : Nat} {f : α → AV} {xs : List α} {R : List HE} {τ : Store} (hr : Has R τ) (h : accOk τ a xs.length) : Has (.acc a el e (xs.map f) :: R) (accS τ a el e f xs) := by
  obtain _ | ⟨k, c⟩ := a
  · simp only [accOk] at h
    have hx := List.eq_nil_of_length_eq_zero h
    subst hx
    refine ⟨rfl, fun j p hj => by simp [HE.st] at hj, ?_⟩
    have : (accS τ none el e f []).minus (HE.acc none el e (List.map f [])).st = τ := by
      funext j; simp [Store.minus, HE.st, accS]
    rw [this]; exact hr
  · obtain ⟨h1, h2⟩ := h
    have := has_new (o := .cells el (c * e) (flat (xs.map f))) h1 hr
    exact ⟨by simpa [HE.ok] using h2, this.2.1, this.2.2⟩

section
variable {P : Program} {N : Nat} {L : Slots} {H : List HE} {ops : Array Oper} {l : List Oper}

def lift (Q : Exit → Slots → List HE → Prop) : Exit → Slots → Store → Prop := fun e L σ => ∃ H, Has H σ ∧ Q e L H

/-- A quiet operation: its value. -/
def QO (P : Program) (N : Nat) (o : Oper) (L : Slots) (H : List HE) (y : AV) : Prop := ∀ σ, Has H σ → ∀ K E, K y σ → OM P N o L σ K E
def OMH (P : Program) (N : Nat) (o : Oper) (L : Slots) (H : List HE) (K : AV → List HE → Prop) (E : List PanicEntry → List HE → Prop) : Prop :=
  ∀ σ, Has H σ → OM P N o L σ (fun y σ' => ∃ H', Has H' σ' ∧ K y H') (fun ch σ' => ∃ H', Has H' σ' ∧ E ch H')
theorem QO.om {o : Oper} {y : AV} {K : AV → List HE → Prop} {E : List PanicEntry → List HE → Prop} (h : QO P N o L H y) (hk : K y H) : OMH P N o L H K E := fun σ hs => h σ hs _ _ ⟨H, hs, hk⟩

def WLH (P : Program) (N : Nat) (ops : Array Oper) (l : List Oper) (Q : Exit → Slots → List HE → Prop) (L : Slots) (H : List HE) : Prop := ∀ σ, Has H σ → WL P N ops l (lift Q) L σ
def WMH (P : Program) (N : Nat) (c : Code) (Q : Exit → Slots → List HE → Prop) (L : Slots) (H : List HE) : Prop := ∀ σ, Has H σ → WM P N c (lift Q) L σ
def CMH (P : Program) (f : FuncId) (args : List AV) (H : List HE) (Q : AEnd → List HE → Prop) : Prop := ∀ σ, Has H σ → CM P f args σ (fun e σ' => ∃ H', Has H' σ' ∧ Q e H')

variable {Q : Exit → Slots → List HE → Prop}
theorem wh_nil (h : Q .normal L H) : WLH P N ops [] Q L H := fun _ hs => wl_nil ⟨H, hs, h⟩
variable {d : Tmp} {op : Op} {ty : TypeId} {ps : String} {af : Array Edge} {g : Option (Nat × Bool)} {j : Nat} {want : Bool}
theorem wh_l {g : Option (Nat × Bool)} (hd : Nat.blt d N = true) (hg : gd ops L ⟨some d, op, ty, ps, af, g⟩ = some true) (h : OMH P N ⟨some d, op, ty, ps, af, g⟩ L H (fun y H' => WLH P N ops l Q ((d, y) :: L) H') (fun ch H' => Q (.panic ch) L H')) :
    WLH P N ops (⟨some d, op, ty, ps, af, g⟩ :: l) Q L H := fun σ hs => wl_run hd hg ((h σ hs).mono (fun _ σ' ⟨_, hs', hk⟩ => hk σ' hs') (fun _ _ ⟨H', hs', hk⟩ => ⟨H', hs', hk⟩))
theorem wh_n {g : Option (Nat × Bool)} (hg : gd ops L ⟨none, op, ty, ps, af, g⟩ = some true) (h : OMH P N ⟨none, op, ty, ps, af, g⟩ L H (fun _ H' => WLH P N ops l Q L H') (fun ch H' => Q (.panic ch) L H')) :
    WLH P N ops (⟨none, op, ty, ps, af, g⟩ :: l) Q L H := fun σ hs => wl_run rfl hg ((h σ hs).mono (fun _ σ' ⟨_, hs', hk⟩ => hk σ' hs') (fun _ _ ⟨H', hs', hk⟩ => ⟨H', hs', hk⟩))
theorem wh_q {g : Option (Nat × Bool)} {y : AV} (hd : Nat.blt d N = true) (hg : gd ops L ⟨some d, op, ty, ps, af, g⟩ = some true) (h : QO P N ⟨some d, op, ty, ps, af, g⟩ L H y) (hk : WLH P N ops l Q ((d, y) :: L) H) :
    WLH P N ops (⟨some d, op, ty, ps, af, g⟩ :: l) Q L H := wh_l hd hg (h.om hk)
theorem wh_qn {g : Option (Nat × Bool)} {y : AV} (hg : gd ops L ⟨none, op, ty, ps, af, g⟩ = some true) (h : QO P N ⟨none, op, ty, ps, af, g⟩ L H y) (hk : WLH P N ops l Q L H) :
    WLH P N ops (⟨none, op, ty, ps, af, g⟩ :: l) Q L H := wh_n hg (h.om hk)
theorem wh_sk {g : Option (Nat × Bool)} (hd : Nat.blt d N = true) (hg : gd ops L ⟨some d, op, ty, ps, af, g⟩ = some false) (h : WLH P N ops l Q ((d, .sc undef) :: L) H) : WLH P N ops (⟨some d, op, ty, ps, af, g⟩ :: l) Q L H :=
  fun σ hs => wl_skip hd hg (h σ hs)
theorem wh_nk {g : Option (Nat × Bool)} (hg : gd ops L ⟨none, op, ty, ps, af, g⟩ = some false) (h : WLH P N ops l Q L H) : WLH P N ops (⟨none, op, ty, ps, af, g⟩ :: l) Q L H :=
  fun σ hs => wl_skip rfl hg (h σ hs)
theorem wh_if {t : Nat} {b : Bool} (h : look L t = some (.sc (.bool b))) (h1 : b = true → WLH P N ops l Q ((t, .sc (.bool true)) :: L) H) (h0 : b = false → WLH P N ops l Q ((t, .sc (.bool false)) :: L) H) : WLH P N ops l Q L H :=
  fun σ hs => wl_if h (fun e => h1 e σ hs) (fun e => h0 e σ hs)
theorem wh_same {L' : Slots} (h : ∀ t, look L' t = look L t) (k : WLH P N ops l Q L' H) : WLH P N ops l Q L H := fun σ hs => wl_sub (fun t x hx => (h t).symm.trans hx) (k σ hs)

/-! ### Code -/
theorem wm_of {c : Code} (h : WMH P N c Q L H) {σ : Store} (hs : Has H σ) : WM P N c (lift Q) L σ := h σ hs
theorem wmh_sub {c : Code} {L' : Slots} {H' : List HE} (hl : Sub L' L) (hh : SubH H' H) (h : WMH P N c Q L' H') : WMH P N c Q L H := fun σ hs => wm_sub hl (h σ (hh σ hs))
theorem wmh_mono {c : Code} {Q' : Exit → Slots → List HE → Prop} (h : WMH P N c Q L H) (hq : ∀ e L H, Q e L H → Q' e L H) : WMH P N c Q' L H :=
  fun σ hs => wm_mono (h σ hs) fun _ _ _ ⟨H', h1, h2⟩ => ⟨H', h1, hq _ _ _ h2⟩
def thenH (next : Slots → List HE → Prop) (Q : Exit → Slots → List HE → Prop) : Exit → Slots → List HE → Prop
  | .normal, L, H => next L H
  | e, L, H => Q e L H
def blockH (id : Nat) (Q : Exit → Slots → List HE → Prop) : Exit → Slots → List HE → Prop
  | .exit j, L, H => cond (Nat.beq j id) (Q .normal L H) (Q (.exit j) L H)
  | e, L, H => Q e L H
theorem wmh_seq {x y : Code} (h : WMH P N x (thenH (fun L H => WMH P N y Q L H) Q) L H) : WMH P N (.seq x y) Q L H := fun σ hs => wm_seq (wm_mono (h σ hs) fun e L σ ⟨H', h1, h2⟩ => by
  cases e <;> first
    | exact h2 σ h1
    | exact ⟨H', h1, h2⟩)
theorem wmh_skip (h : Q .normal L H) : WMH P N .skip Q L H := fun _ hs => wm_skip ⟨H, hs, h⟩
theorem wmh_ret (h : Q .ret L H) : WMH P N .ret Q L H := fun _ hs => wm_ret ⟨H, hs, h⟩
theorem wmh_exit {id : Nat} (h : Q (.exit id) L H) : WMH P N (.exit id) Q L H := fun _ hs => wm_exit ⟨H, hs, h⟩
theorem wmh_label {id : Nat} (h : Q .normal L H) : WMH P N (.label id) Q L H := fun _ hs => wm_label ⟨H, hs, h⟩
theorem wmh_block {id : Nat} {c : Code} (h : WMH P N c (blockH id Q) L H) : WMH P N (.block id c) Q L H := fun σ hs => wm_block (wm_mono (h σ hs) fun e L σ ⟨H', h1, h2⟩ => by
  cases e with
  | exit j =>
    simp only [blockH] at h2
    simp only [blockM]
    cases hb : Nat.beq j id with
    | true => simp only [hb, cond_true] at h2 ⊢; exact ⟨H', h1, h2⟩
    | false => simp only [hb, cond_false] at h2 ⊢; exact ⟨H', h1, h2⟩
  | _ => exact ⟨H', h1, h2⟩)
theorem wmh_cond {c : Operand} {x y : Code} {b : Bool} (hc : get L c = some (.sc (.bool b))) (ht : b = true → WMH P N x Q L H) (hf : b = false → WMH P N y Q L H) : WMH P N (.cond c x y) Q L H :=
  fun σ hs => wm_cond hc (fun e => ht e σ hs) (fun e => hf e σ hs)
theorem wmh_cond_t {c : Operand} {x y : Code} (hc : get L c = some (.sc (.bool true))) (h : WMH P N x Q L H) : WMH P N (.cond c x y) Q L H := fun σ hs => wm_cond_t hc (h σ hs)
theorem wmh_cond_f {c : Operand} {x y : Code} (hc : get L c = some (.sc (.bool false))) (h : WMH P N y Q L H) : WMH P N (.cond c x y) Q L H := fun σ hs => wm_cond_f hc (h σ hs)
theorem wmh_region {id : Nat} {l : List Oper} (h : WLH P N l.toArray l Q L H) : WMH P N (.region id l.toArray false) Q L H := fun σ hs => wm_region (h σ hs)
/-- What comes behind is told once. -/
theorem wmh_join {x y : Code} {ι : Type} (J : ι → Slots → List HE → Prop) (h : WMH P N x (thenH (fun L H => ∃ i, J i L H) Q) L H) (h2 : ∀ i L H, J i L H → WMH P N y Q L H) : WMH P N (.seq x y) Q L H :=
  wmh_seq (wmh_mono h fun e L H hq => by
    cases e <;> first
      | exact hq
      | (obtain ⟨i, hi⟩ := hq; exact h2 i L H hi))

/-! ### A loop, behind its function -/
def LoopIn (P : Program) (c : Code) (Q : Exit → Act → World → Prop) (a : Act) (w : World) : Prop := ∀ (b : Frame) (k : List Item) (cs : List Frame),
  ∃ e a' w', Q e a' w' ∧ Arrives P (lone (b.at a (.code c :: .inLoop c :: k)) cs w) b k cs e a' w'
theorem loopIn_step {c : Code} {Q : Exit → Act → World → Prop} {a : Act} {w : World} (h : c.wp P (Exit.then (LoopIn P c Q) Q) a w) : LoopIn P c Q a w := by
  intro b k cs
  obtain ⟨e, a₁, w₁, hq, harr⟩ := h b (.inLoop c :: k) cs
  cases e with
  | normal =>
    obtain ⟨e₂, a₂, w₂, hq₂, harr₂⟩ := hq b k cs
    exact ⟨e₂, a₂, w₂, hq₂, .of_steps (Steps.trans harr (.one step_inLoop)) harr₂⟩
  | exit id => exact ⟨_, a₁, w₁, hq, .pass (x := .inLoop c) rfl (fun _ _ => .inl (by simp)) harr⟩
  | goto l => exact ⟨_, a₁, w₁, hq, .pass (x := .inLoop c) rfl (fun _ _ => .inl (by simp)) harr⟩
  | ret => exact ⟨_, a₁, w₁, hq, .pass (x := .inLoop c) rfl (fun _ _ => .inl (by simp)) harr⟩
  | panic ch => exact ⟨_, a₁, w₁, hq, .pass (x := .inLoop c) rfl (fun _ _ => .inl (by simp)) harr⟩
  | outgrown => exact ⟨_, a₁, w₁, hq, .pass (x := .inLoop c) rfl (fun _ _ => .inl (by simp)) harr⟩
theorem wp_loopIn {c : Code} {Q : Exit → Act → World → Prop} {a : Act} {w : World} (h : LoopIn P c Q a w) : (Code.loop c).wp P Q a w := by
  intro b k cs
  obtain ⟨e, a', w', hq, harr⟩ := h b k cs
  exact ⟨e, a', w', hq, .of_steps (.one step_loop) harr⟩
theorem LoopIn.mono {c : Code} {Q Q' : Exit → Act → World → Prop} {a : Act} {w : World} (h : LoopIn P c Q a w) (hq : ∀ e a w, Q e a w → Q' e a w) : LoopIn P c Q' a w :=
  fun b k cs => let ⟨e, a', w', q, r⟩ := h b k cs; ⟨e, a', w', hq _ _ _ q, r⟩

theorem wmh_loop {S ρ : Type} {lf : S → Option ρ} {F : (S → Option ρ) → S → Option ρ} {c : Code} (pc : ∀ motive : S → ρ → Prop, (∀ l', (∀ s r, l' s = some r → motive s r) → ∀ s r, F l' s = some r → motive s r) → ∀ s r, lf s = some r → motive s r)
    (Pre : S → Slots → List HE → Prop) (Post : ρ → Exit → Slots → List HE → Prop) {s₀ : S} {r : ρ} (h : lf s₀ = some r) (h0 : Pre s₀ L H) (hq : ∀ e L H, Post r e L H → Q e L H)
    (round : ∀ l' s r, F l' s = some r → ∀ L H, Pre s L H → WMH P N c (thenH (fun L' H' => ∃ s', l' s' = some r ∧ Pre s' L' H') (Post r)) L H) : WMH P N (.loop c) Q L H := by
  have key : ∀ s r, lf s = some r → ∀ L H, Pre s L H → ∀ σ, Has H σ → ∀ A w a, Good A w σ → RF A w N L a → LoopIn P c (Fin A w N (lift (Post r))) a w := by
    refine pc _ fun l' ih s r hr L H hp σ hs A w a hg hf => loopIn_step ?_
    refine wp_mono (round l' s r hr L H hp σ hs A w a hg hf) ?_
    rintro e a2 w2 ⟨A2, L2, σ2, h1, h2, h3, H2, h4, h5⟩
    cases e with
    | normal =>
      obtain ⟨s', hl, hp'⟩ := h5
      exact (ih s' r hl L2 H2 hp' σ2 h4 A2 w2 a2 h2 h3).mono fun _ _ _ k => k.ext h1
    | exit id => exact ⟨A2, L2, σ2, h1, h2, h3, H2, h4, h5⟩
    | goto l => exact ⟨A2, L2, σ2, h1, h2, h3, H2, h4, h5⟩
    | ret => exact ⟨A2, L2, σ2, h1, h2, h3, H2, h4, h5⟩
    | panic ch => exact ⟨A2, L2, σ2, h1, h2, h3, H2, h4, h5⟩
    | outgrown => exact ⟨A2, L2, σ2, h1, h2, h3, H2, h4, h5⟩
  intro σ hs A w a hg hf
  refine wp_mono (wp_loopIn (key s₀ r h L H h0 σ hs A w a hg hf)) ?_
  rintro e a2 w2 ⟨A2, L2, σ2, h1, h2, h3, H2, h4, h5⟩
  exact ⟨A2, L2, σ2, h1, h2, h3, H2, h4, hq _ _ _ h5⟩

/-! ### A region in any order -/
variable {loud : List Nat} {i : Nat} {c : List Nat} {HJ : List HE}
def VCH (P : Program) (N : Nat) (ops : Array Oper) (HJ : List HE) (loud : List Nat) (Q : Exit → Slots → List HE → Prop) (c : List Nat) (L : Slots) (H : List HE) : Prop := ∀ σ, Has H σ → VC P N ops (Has HJ) loud (lift Q) c L σ
theorem wmh_drawn {id : Nat} {ops : Array Oper} (HJ : List HE) (loud c : List Nat) (hm : P.follows .mixedOrders = true) (hc : orderOk ops loud c = true) (hJ : SubH HJ H) (h : VCH P N ops HJ loud Q c L H) : WMH P N (.region id ops true) Q L H :=
  fun σ hs => wm_drawn (Has HJ) loud c hm hc (hJ σ hs) (h σ hs)
theorem vh_nil (h : Q .normal L H) : VCH P N ops HJ loud Q [] L H := fun _ hs => vc_nil ⟨H, hs, h⟩
theorem vh_q {y : AV} (ho : ops[i]? = some ⟨some d, op, ty, ps, af, g⟩) (hd : Nat.blt d N = true) (hl : loud.contains i = false) (hg : gd ops L ⟨some d, op, ty, ps, af, g⟩ = some true)
    (h : QO P N ⟨some d, op, ty, ps, af, g⟩ L HJ y) (hk : VCH P N ops HJ loud Q c ((d, y) :: L) H) : VCH P N ops HJ loud Q (i :: c) L H :=
  fun σ hs => vc_q y ho hd hl hg (fun σ' hj => h σ' hj _ _ ⟨rfl, rfl⟩) (hk σ hs)
theorem vh_l (ho : ops[i]? = some ⟨some d, op, ty, ps, af, g⟩) (hd : Nat.blt d N = true) (hl : loud.contains i = true) (hg : gd ops L ⟨some d, op, ty, ps, af, g⟩ = some true)
    (h : OMH P N ⟨some d, op, ty, ps, af, g⟩ L H (fun y H' => (freeOk ops loud i = true ∨ SubH HJ H') ∧ VCH P N ops HJ loud Q c ((d, y) :: L) H') (fun ch H' => Q (.panic ch) [] H')) : VCH P N ops HJ loud Q (i :: c) L H :=
  fun σ hs => vc_l ho hd hl hg ((h σ hs).mono (fun _ σ' ⟨_, hs', h1, h2⟩ => ⟨h1.imp id fun h => h σ' hs', h2 σ' hs'⟩) (fun _ _ ⟨H', hs', hk⟩ => ⟨H', hs', hk⟩))
theorem vh_n (ho : ops[i]? = some ⟨none, op, ty, ps, af, g⟩) (hl : loud.contains i = true) (hg : gd ops L ⟨none, op, ty, ps, af, g⟩ = some true)
    (h : OMH P N ⟨none, op, ty, ps, af, g⟩ L H (fun _ H' => (freeOk ops loud i = true ∨ SubH HJ H') ∧ VCH P N ops HJ loud Q c L H') (fun ch H' => Q (.panic ch) [] H')) : VCH P N ops HJ loud Q (i :: c) L H :=
  fun σ hs => vc_l ho rfl hl hg ((h σ hs).mono (fun _ σ' ⟨_, hs', h1, h2⟩ => ⟨h1.imp id fun h => h σ' hs', h2 σ' hs'⟩) (fun _ _ ⟨H', hs', hk⟩ => ⟨H', hs', hk⟩))
theorem vh_sk (hJ : SubH HJ H) (ho : ops[i]? = some ⟨some d, op, ty, ps, af, g⟩) (hd : Nat.blt d N = true) (hg : gd ops L ⟨some d, op, ty, ps, af, g⟩ = some false) (hk : VCH P N ops HJ loud Q c ((d, .sc undef) :: L) H) :
    VCH P N ops HJ loud Q (i :: c) L H := fun σ hs => vc_skip (hJ σ hs) ho hd hg (hk σ hs)
theorem vh_nk (hJ : SubH HJ H) (ho : ops[i]? = some ⟨none, op, ty, ps, af, g⟩) (hg : gd ops L ⟨none, op, ty, ps, af, g⟩ = some false) (hk : VCH P N ops HJ loud Q c L H) : VCH P N ops HJ loud Q (i :: c) L H :=
  fun σ hs => vc_skip (hJ σ hs) ho rfl hg (hk σ hs)
theorem vh_if {t : Nat} {b : Bool} (h : look L t = some (.sc (.bool b))) (h1 : b = true → VCH P N ops HJ loud Q c ((t, .sc (.bool true)) :: L) H) (h0 : b = false → VCH P N ops HJ loud Q c ((t, .sc (.bool false)) :: L) H) : VCH P N ops HJ loud Q c L H :=
  fun σ hs => vc_if h (fun e => h1 e σ hs) (fun e => h0 e σ hs)

/-! ### Calls -/
def ResH (P : Program) (fn : Func) (N : Nat) (L : Slots) (H : List HE) (x : AV) : Prop := ∀ σ, Has H σ → ResM P fn N L σ x
def bodyH (P : Program) (fn : Func) (N : Nat) (Q : AEnd → List HE → Prop) : Exit → Slots → List HE → Prop
  | .normal, L, H | .ret, L, H => ∃ x H1, ResH P fn N L H x ∧ SubH H1 H ∧ Q (.ret x) H1
  | .panic ch, _, H => ∃ H1, SubH H1 H ∧ Q (.pan ch) H1
  | _, _, _ => False
theorem ch_enter {f : FuncId} {fn : Func} {c : Code} {N : Nat} {args : List AV} {Q : AEnd → List HE → Prop} (hf : P.funcs[f]? = some fn) (hb : fn.body = some c) (hN : fn.ntmps = N)
    (hl : Nat.ble args.length N = true) (h : WMH P N c (bodyH P fn N Q) (args0 0 args) H) : CMH P f args H Q := fun σ hs =>
  cm_enter hf hb hN hl (wm_mono (h σ hs) fun e L σ' ⟨H', h1, h2⟩ => by
    cases e with
    | normal => obtain ⟨x, H1, h3, h4, h5⟩ := h2; exact ⟨x, σ', h3 σ' h1, Less.refl _, H1, h4 σ' h1, h5⟩
    | ret => obtain ⟨x, H1, h3, h4, h5⟩ := h2; exact ⟨x, σ', h3 σ' h1, Less.refl _, H1, h4 σ' h1, h5⟩
    | panic ch => obtain ⟨H1, h4, h5⟩ := h2; exact ⟨σ', Less.refl _, H1, h4 σ' h1, h5⟩
    | exit id => exact h2.elim
    | goto l => exact h2.elim
    | outgrown => exact h2.elim)

/-- It returns one of these, and the parts that it was lent come back so. -/
def RetX {α : Type} (y : α → AV) (Y : α → List HE) (τ : Store) : AEnd → List HE → Prop := fun e H => ∃ i, e = .ret (y i) ∧ H = Y i ++ [.frm τ]
def Ret1 (y : AV) (Y : List HE) (τ : Store) : AEnd → List HE → Prop := fun e H => e = .ret y ∧ H = Y ++ [.frm τ]
theorem CMH.mono {f : FuncId} {args : List AV} {Q Q' : AEnd → List HE → Prop} (h : CMH P f args H Q) (hq : ∀ e H, Q e H → Q' e H) : CMH P f args H Q' := fun σ hs => (h σ hs).mono fun _ _ ⟨H', h1, h2⟩ => ⟨H', h1, hq _ _ h2⟩

variable {K : AV → List HE → Prop} {E : List PanicEntry → List HE → Prop} {d' : Option Tmp}
def endH (K : AV → List HE → Prop) (E : List PanicEntry → List HE → Prop) : AEnd → List HE → Prop
  | .ret x, H => K x H
  | .pan ch, H => E ch H
theorem cmh_frame {f : FuncId} {args : List AV} {X R : List HE} {Q : AEnd → List HE → Prop} (h : ∀ τ, Has R τ → CMH P f args (X ++ [.frm τ]) (fun e H' => ∃ Y, H' = Y ++ [.frm τ] ∧ Q e (Y ++ R))) : CMH P f args (X ++ R) Q := fun σ hs => by
  obtain ⟨τ, h1, h2⟩ := has_split hs
  exact (h τ h1 σ h2).mono fun e σ' ⟨H', h3, Y, h4, h5⟩ => ⟨Y ++ R, has_join h1 (h4 ▸ h3), h5⟩
theorem oh_call {f : FuncId} {xs : Array Operand} {ts : Array TypeId} {args : List AV} {is : List Nat} {X R : List HE} (hf : IsFn P f) (hx : getL L xs.toList = some args) (hc : cuts is H = some (X, R))
    (h : ∀ τ, Has R τ → CMH P f args (X ++ [.frm τ]) (fun e H' => ∃ Y, H' = Y ++ [.frm τ] ∧ endH K E e (Y ++ R))) : OMH P N ⟨d', .call ⟨.value (.func f), xs, ts⟩, ty, ps, af, g⟩ L H K E := fun σ hs =>
  om_call hf hx (((cmh_frame h) σ ((has_cuts hc).1 hs)).mono fun e σ' ⟨H', h1, h2⟩ => by
    cases e with
    | ret x => exact ⟨H', h1, h2⟩
    | pan ch => exact ⟨H', h1, h2⟩)
theorem oh_call1 {f : FuncId} {xs : Array Operand} {ts : Array TypeId} {args : List AV} (is : List Nat) {X R Y : List HE} {y : AV} (hf : IsFn P f) (hx : getL L xs.toList = some args) (hc : cuts is H = some (X, R))
    (h : ∀ τ, Has R τ → CMH P f args (X ++ [.frm τ]) (Ret1 y Y τ)) (hk : K y (Y ++ R)) : OMH P N ⟨d', .call ⟨.value (.func f), xs, ts⟩, ty, ps, af, g⟩ L H K E :=
  oh_call hf hx hc fun τ hr => (h τ hr).mono (by rintro e H' ⟨rfl, rfl⟩; exact ⟨Y, rfl, hk⟩)
theorem oh_callX {f : FuncId} {xs : Array Operand} {ts : Array TypeId} {args : List AV} {α : Type} (is : List Nat) {X R : List HE} {Y : α → List HE} {y : α → AV} (hf : IsFn P f) (hx : getL L xs.toList = some args) (hc : cuts is H = some (X, R))
    (h : ∀ τ, Has R τ → CMH P f args (X ++ [.frm τ]) (RetX y Y τ)) (hk : ∀ i, K (y i) (Y i ++ R)) : OMH P N ⟨d', .call ⟨.value (.func f), xs, ts⟩, ty, ps, af, g⟩ L H K E :=
  oh_call hf hx hc fun τ hr => (h τ hr).mono (by rintro e H' ⟨i, rfl, rfl⟩; exact ⟨Y i, rfl, hk i⟩)

/-! ### What is known of the frame: the variables that never turn -/
def GL (gl : List (Nat × AV)) (τ : Store) : Prop := ∀ p ∈ gl, τ p.1 = some (.glob p.2)
theorem gl_has {gl : List (Nat × AV)} {τ : Store} (hg : GL gl τ) : ∀ {n : Nat} {R : List HE} {σ : Store}, R[n]? = some (.frm τ) → Has R σ → GL gl σ
  | _, [], _, h, _ => by simp at h
  | 0, x :: R, σ, h, hr => by
    simp only [List.getElem?_cons_zero, Option.some.injEq] at h
    subst h
    exact fun p hp => hr.2.1 p.1 _ (hg p hp)
  | n + 1, x :: R, σ, h, hr => by
    have := gl_has hg (n := n) (by simpa using h) hr.2.2
    exact fun p hp => minus_less _ _ p.1 _ (this p hp)
end
end Go.Gw
