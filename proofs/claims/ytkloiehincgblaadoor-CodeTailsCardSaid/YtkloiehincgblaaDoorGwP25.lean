/- The checks of a code always answer. -/
import Derived.Test.YtkloiehincgblaaDoorGwP24
namespace Go.Gw

def Ans {α : Type} (x : Option α) : Prop := ∃ r, x = some r
theorem ans_some {α : Type} {a : α} : Ans (some a) := ⟨a, rfl⟩
theorem ans_bind {α β : Type} {x : Option α} {f : α → Option β} (h : Ans x) (hf : ∀ a, x = some a → Ans (f a)) : Ans (x >>= f) := by
  obtain ⟨a, rfl⟩ := h
  exact hf a rfl
theorem ans_ite {α : Type} {c : Prop} [Decidable c] {x y : Option α} (h1 : c → Ans x) (h2 : ¬ c → Ans y) : Ans (if c then x else y) := by
  split
  · exact h1 ‹_›
  · exact h2 ‹_›
theorem at_mem {α : Type} {xs : List α} {n : Int} {a : α} (h : at? xs n = some a) : a ∈ xs := by
  unfold at? at h
  split at h
  · exact List.mem_of_getElem? h
  · cases h
theorem at_ans {α : Type} {xs : List α} {n : Int} (h : 0 ≤ n) (h' : n < (xs.length : Int)) : Ans (at? xs n) := by
  refine ⟨xs[n.toNat]'(by omega), ?_⟩
  rw [at?, if_pos h]
  exact List.getElem?_eq_getElem _
theorem sub_ans {α : Type} {xs : List α} {l h : Int} (h0 : 0 ≤ l) (h1 : l ≤ h) (h2 : h ≤ (xs.length : Int)) : Ans (sub? xs l h) := ⟨_, by rw [sub?, if_pos ⟨h0, h1, h2⟩]⟩
theorem sub_mem {α : Type} {xs ys : List α} {l h : Int} (e : sub? xs l h = some ys) : ∀ y ∈ ys, y ∈ xs := by
  unfold sub? at e
  split at e
  · cases e
    intro y hy
    exact List.mem_of_mem_drop (List.mem_of_mem_take hy)
  · cases e
theorem atS_ans {s : ByteArray} (h : ¬ s = ByteArray.mk #[]) : Ans (atS? s 0) := by
  have : 0 < s.size := by
    rcases Nat.eq_zero_or_pos s.size with h0 | h0
    · exact absurd (by cases s with | mk d => exact congrArg ByteArray.mk (Array.eq_empty_of_size_eq_zero h0)) h
    · exact h0
  exact ⟨_, by rw [atS?, if_pos ⟨by omega, by omega⟩]⟩

theorem p85_ans (c : CCode) (t : CTag) (h : 0 ≤ t.fn) : Ans (p85 c t) := by
  unfold p85
  repeat' split
  all_goals try exact ans_some
  all_goals refine ans_bind ?_ fun _ _ => ans_some
  all_goals repeat' split
  all_goals try exact ans_some
  all_goals simp only [decide_eq_true_eq, Bool.not_eq_true', decide_eq_false_iff_not] at *
  · refine ans_bind (atS_ans ‹_›) fun a _ => ?_
    split
    · exact ans_bind (atS_ans ‹_›) fun a _ => ans_some
    · exact ans_some
  · exact ans_bind (at_ans h ‹_›) fun a _ => ans_some
  · exact ans_bind (at_ans h ‹_›) fun a _ => ans_some
theorem p85_fn {c : CCode} {t : CTag} (h : p85 c t = some true) (hk : t.kind = 3) : t.fn < (c.funs.length : Int) := by
  unfold p85 at h
  simp only [hk, show ¬ ((3 : Int) = 1) by decide, show ¬ ((3 : Int) = 2) by decide, decide_false, decide_true, if_true, Bool.false_eq_true, if_false] at h
  by_cases hn : t.name = ByteArray.mk #[]
  · by_cases hf : t.fn < (c.funs.length : Int)
    · exact hf
    · simp [hn, hf] at h
  · simp [hn] at h
/-- Every tag was found good. -/
def TagsOk (c : CCode) : Prop := ∀ t ∈ c.tags, t.kind = 3 → t.fn < (c.funs.length : Int)
theorem l43_1_ans (c : CCode) : ∀ l : List CTag, (∀ t ∈ l, 0 ≤ t.fn) → Ans (l43_1 c l ())
  | [], _ => ans_some
  | t :: l, h => by
    rw [l43_1]
    refine ans_bind (p85_ans c t (h t List.mem_cons_self)) fun a _ => ?_
    split
    · exact ans_some
    · exact l43_1_ans c l fun t ht => h t (List.mem_cons_of_mem _ ht)
theorem l43_1_ok (c : CCode) : ∀ l : List CTag, l43_1 c l () = some (.go ()) → ∀ t ∈ l, t.kind = 3 → t.fn < (c.funs.length : Int)
  | [], _, t, ht, _ => by cases ht
  | u :: l, h, t, ht, hk => by
    rw [l43_1] at h
    obtain ⟨a, h1, h2⟩ := obind h
    cases a with
    | false => cases h2
    | true =>
      rcases List.mem_cons.mp ht with rfl | ht
      · exact p85_fn h1 hk
      · exact l43_1_ok c l h2 t ht hk
theorem p86_ans (n : Int) : Ans (p86 n) := by
  rw [p86]
  repeat' first | exact ans_some | refine ans_ite (fun _ => ?_) fun _ => ?_
theorem p150_ans (c : CCode) (t : CTag) (h : 0 ≤ t.fn) (h' : t.kind = 3 → t.fn < (c.funs.length : Int)) : Ans (p150 c t) := by
  rw [p150]
  refine ans_ite (fun hk => ?_) fun _ => ?_
  · exact ans_bind (at_ans h (h' (of_decide_eq_true hk))) fun _ _ => ans_some
  · repeat' first | exact ans_some | refine ans_ite (fun _ => ?_) fun _ => ?_
theorem l195_ans (s : ByteArray) : ∀ (l : List ByteArray) (k : Int), Ans (l195_1 s l k)
  | [], _ => ans_some
  | t :: l, k => by
    rw [l195_1]
    split
    · exact ans_some
    · exact l195_ans s l _
theorem p151_ans (s : ByteArray) : Ans (p151 s) := by
  rw [p151]
  refine ans_ite (fun _ => ans_some) fun _ => ans_ite (fun _ => ans_some) fun _ => ?_
  refine ans_bind ?_ fun a _ => by split <;> exact ans_some
  rw [p171]
  refine ans_bind ?_ fun a _ => ans_some
  rw [p195]
  refine ans_bind (l195_ans _ _ _) fun a _ => ?_
  split <;> exact ans_some
theorem p118_ans {c : CCode} (hc : WC c) (ht : TagsOk c) {x : CIns} (hx : WI x) : Ans (p118 c x) := by
  rw [p118]
  by_cases h1 : x.op = 1
  · simp only [h1, decide_true, if_true]
    by_cases h2 : x.tag < (c.tags.length : Int)
    · simp only [h2, decide_true, if_true]
      exact ans_bind (at_ans hx.tag h2) fun t e => ans_bind (p150_ans c t (hc.tag t (at_mem e)).fn (ht t (at_mem e))) fun _ _ => ans_some
    · simp only [h2, decide_false, Bool.false_eq_true, if_false]; exact ans_some
  by_cases h4 : x.op = 4
  · simp only [h4, show ¬ ((4 : Int) = 1) by decide, decide_true, decide_false, Bool.false_eq_true, if_true, if_false]
    by_cases h2 : x.fn < (c.funs.length : Int)
    · simp only [h2, decide_true, if_true]
      exact ans_bind (at_ans hx.fn h2) fun t e => ans_some
    · simp only [h2, decide_false, Bool.false_eq_true, if_false]; exact ans_some
  simp only [h1, h4, decide_false, Bool.false_eq_true, if_false]
  repeat' first | exact ans_some | refine ans_ite (fun _ => ?_) fun _ => ?_ | refine ans_bind (p151_ans _) fun a _ => ?_
theorem p118_tag {c : CCode} {x : CIns} {k : Int} (h : p118 c x = some k) (h1 : x.op = 1) (hk : 0 ≤ k) : x.tag < (c.tags.length : Int) := by
  unfold p118 at h
  simp only [h1, decide_true, if_true] at h
  by_cases h2 : x.tag < (c.tags.length : Int)
  · exact h2
  · simp only [h2, decide_false, Bool.false_eq_true, if_false, Option.some.injEq] at h
    omega
theorem p119_ans {c : CCode} {x : CIns} (hx : WI x) (h : x.op = 1 → x.tag < (c.tags.length : Int)) : Ans (p119 c x) := by
  rw [p119]
  refine ans_ite (fun _ => ans_some) fun _ => ans_ite (fun _ => ans_some) fun _ => ans_ite (fun h1 => ?_) fun _ => ?_
  · have h' := h (of_decide_eq_true h1)
    refine ans_bind (at_ans hx.tag h') fun a _ => ?_
    split
    · exact ans_some
    · exact ans_bind (at_ans hx.tag h') fun a _ => ans_some
  · exact ans_some
theorem l87_2_ans (c : CCode) (a b : Int) : ∀ l : List CAlt, Ans (l87_2 c a b l ())
  | [] => ans_some
  | v :: l => by
    rw [l87_2]
    repeat' first | exact ans_some | exact l87_2_ans c a b l | refine ans_ite (fun _ => ?_) fun _ => ?_
theorem l87_1_ans {c : CCode} {x : CIns} (hp : Ans (p119 c x)) (a : Int) : ∀ l : List CVal, Ans (l87_1 c x a l ())
  | [] => ans_some
  | v :: l => by
    rw [l87_1]
    repeat' first | exact ans_some | exact l87_1_ans hp a l | refine ans_ite (fun _ => ?_) fun _ => ?_ | refine ans_bind hp fun b _ => ?_
theorem p87_ans {c : CCode} (hc : WC c) (ht : TagsOk c) {x : CIns} (hx : WI x) (a b d : Int) : Ans (p87 c x a b d) := by
  unfold p87
  refine ans_bind (p118_ans hc ht hx) fun k hk => ?_
  refine ans_ite (fun _ => ans_some) fun h0 => ?_
  have hk0 : 0 ≤ k := by simp at h0; omega
  have hp : Ans (p119 c x) := p119_ans hx fun h => p118_tag hk h hk0
  refine ans_ite (fun _ => ans_some) fun _ => ans_ite (fun _ => ans_some) fun _ => ans_ite (fun _ => ans_some) fun _ => ?_
  refine ans_bind (l87_1_ans hp _ _) fun r _ => ?_
  cases r with
  | ret v => exact ans_some
  | go _ =>
    refine ans_bind (l87_2_ans _ _ _ _) fun r _ => ?_
    cases r with
    | ret v => exact ans_some
    | go _ => exact ans_ite (fun _ => ans_some) fun _ => ans_bind (p86_ans _) fun a _ => ans_ite (fun _ => ans_some) fun _ => ans_some
theorem l43_9_ans {c : CCode} (hc : WC c) (ht : TagsOk c) (f g : CFun) : ∀ l : List CIns, (∀ x ∈ l, WI x) → Ans (l43_9 c f g l ())
  | [], _ => ans_some
  | x :: l, h => by
    rw [l43_9]
    refine ans_bind (p87_ans hc ht (h x List.mem_cons_self) _ _ _) fun b _ => ?_
    split
    · exact ans_some
    · exact l43_9_ans hc ht f g l fun y hy => h y (List.mem_cons_of_mem _ hy)
theorem l43_10_ans {c : CCode} (hc : WC c) (ht : TagsOk c) (f : CFun) : ∀ l : List CIns, (∀ x ∈ l, WI x) → Ans (l43_10 c f l ())
  | [], _ => ans_some
  | x :: l, h => by
    rw [l43_10]
    refine ans_bind (p87_ans hc ht (h x List.mem_cons_self) _ _ _) fun b _ => ?_
    split
    · exact ans_some
    · exact l43_10_ans hc ht f l fun y hy => h y (List.mem_cons_of_mem _ hy)
set_option maxHeartbeats 1000000 in
set_option maxRecDepth 4000 in
theorem l43_8_step {c : CCode} (hc : WC c) (ht : TagsOk c) (f : CFun) (l : List CFun) (k : Int) (hf : 0 ≤ f.at_) (h0 : 0 ≤ k) (h1 : k ≤ 300000) (rest : Ans (l43_8 c l (k + 1))) : Ans (l43_8 c (f :: l) k) := by
    rw [l43_8]
    have hi1 : i64 (k + 1) = k + 1 := i64_small (by omega)
    have hins := hc.ins
    rw [hi1]
    by_cases hn : k + 1 < (c.funs.length : Int)
    · simp only [hn, decide_true, if_true]
      refine ans_bind (at_ans (by omega) hn) fun g hg => ?_
      by_cases a1 : g.at_ ≤ f.at_
      · refine ans_bind ?_ ?_
        · simp only [a1, decide_true, if_true]
          repeat' first | exact ans_some | refine ans_ite (fun _ => ?_) fun _ => ?_
        · intro a ha
          have : ∃ b, a = .ret b := by
            simp only [a1, decide_true, if_true] at ha
            repeat' split at ha
            all_goals (cases ha; exact ⟨_, rfl⟩)
          obtain ⟨b, rfl⟩ := this
          exact ans_some
      · by_cases a2 : (c.ins.length : Int) < g.at_
        · refine ans_bind ?_ ?_
          · simp only [a1, a2, decide_true, if_true, decide_false, Bool.false_eq_true, if_false]
            repeat' first | exact ans_some | refine ans_ite (fun _ => ?_) fun _ => ?_
          · intro a ha
            have : ∃ b, a = .ret b := by
              simp only [a1, a2, decide_true, if_true, decide_false, Bool.false_eq_true, if_false] at ha
              repeat' split at ha
              all_goals (cases ha; exact ⟨_, rfl⟩)
            obtain ⟨b, rfl⟩ := this
            exact ans_some
        · have hi2 : i64 (g.at_ - 1) = g.at_ - 1 := i64_small (by omega)
          refine ans_bind ?_ ?_
          · rw [hi2]
            repeat' first | exact ans_some | refine ans_ite (fun _ => ?_) fun _ => ?_ | refine ans_bind (at_ans (by omega) (by omega)) fun x _ => ans_bind (p86_ans _) fun y _ => ?_
          · intro a _
            cases a with
            | ret b => exact ans_some
            | go q =>
              obtain ⟨q1, q2, q3⟩ := q
              refine ans_bind (sub_ans hf (by omega) (by omega)) fun xs hxs => ?_
              refine ans_bind (l43_9_ans hc ht f g xs fun x hx => hc.in_ x (sub_mem hxs x hx)) fun r _ => ?_
              cases r with
              | go _ => exact rest
              | ret b => exact ans_some
    · simp only [hn, decide_false, Bool.false_eq_true, if_false]
      by_cases a1 : (c.ins.length : Int) ≤ f.at_
      · refine ans_bind ?_ ?_
        · simp only [a1, decide_true, if_true]
          repeat' first | exact ans_some | refine ans_ite (fun _ => ?_) fun _ => ?_
        · intro a ha
          have : ∃ b, a = .ret b := by
            simp only [a1, decide_true, if_true] at ha
            repeat' split at ha
            all_goals (cases ha; exact ⟨_, rfl⟩)
          obtain ⟨b, rfl⟩ := this
          exact ans_some
      · have hi2 : i64 ((c.ins.length : Int) - 1) = (c.ins.length : Int) - 1 := i64_small (by omega)
        refine ans_bind ?_ ?_
        · rw [hi2]
          repeat' first | exact ans_some | refine ans_ite (fun _ => ?_) fun _ => ?_ | refine ans_bind (at_ans (by omega) (by omega)) fun x _ => ans_bind (p86_ans _) fun y _ => ?_
        · intro a _
          cases a with
          | ret b => exact ans_some
          | go q =>
            obtain ⟨q1, q2, q3⟩ := q
            refine ans_bind (sub_ans hf (by omega) (by omega)) fun xs hxs => ?_
            refine ans_bind (l43_10_ans hc ht f xs fun x hx => hc.in_ x (sub_mem hxs x hx)) fun r _ => ?_
            cases r with
            | go _ => exact rest
            | ret b => exact ans_some
theorem l43_8_ans {c : CCode} (hc : WC c) (ht : TagsOk c) (l : List CFun) : ∀ (k : Int), (∀ f ∈ l, 0 ≤ f.at_) → 0 ≤ k → k + l.length ≤ 300000 → Ans (l43_8 c l k) := by
  induction l with
  | nil => exact fun _ _ _ _ => ans_some
  | cons f l ih =>
    intro k h h0 h1
    have hl : ((f :: l).length : Int) = l.length + 1 := by simp
    exact l43_8_step hc ht f l k (h f List.mem_cons_self) h0 (by omega) (ih (k + 1) (fun g hg => h g (List.mem_cons_of_mem _ hg)) (by omega) (by omega))
theorem p43_ans {c : CCode} (hc : WC c) : Ans (p43 c) := by
  rw [p43]
  refine ans_ite (fun _ => ans_some) fun _ => ans_ite (fun _ => ans_some) fun _ => ans_ite (fun _ => ans_some) fun h => ?_
  have h' : c.main < (c.funs.length : Int) := by simp at h; omega
  refine ans_bind (at_ans hc.main h') fun f _ => ?_
  split
  · exact ans_some
  refine ans_bind (l43_1_ans c _ fun t ht => (hc.tag t ht).fn) fun r hr => ?_
  cases r with
  | ret b => exact ans_some
  | go _ =>
    have hl := hc.funs
    refine ans_bind (l43_8_ans hc (l43_1_ok c _ hr) _ _ (fun f hf => (hc.fun_ f hf).at_) (by omega) (by omega)) fun r _ => ?_
    cases r <;> exact ans_some
theorem p43_ins {c : CCode} (h : p43 c = some true) : 1 ≤ c.ins.length := by
  rw [p43] at h
  split at h
  · cases h
  split at h
  · cases h
  rename_i h0
  simp at h0
  cases hc : c.ins with
  | nil => exact absurd hc h0
  | cons a l => simp

/-! ### A code from bytes, as a plain function -/
theorem strOf_inj {a b : By} (h : strOf a = strOf b) : a = b := by
  have := congrArg (fun s : ByteArray => s.data.toList) h
  simpa [strOf] using this
/-- What the reading of a code answers. -/
theorem p11_cases (b : By) : ∃ o e, p11 b = some (o, e) ∧ ((o = none ∧ e.isNil = false) ∨ ∃ c, o = some c ∧ e = .nil ∧ p15 c = some b ∧ 1 ≤ c.ins.length ∧ ∃ b', b = 71 :: b' ∧ allR (b', none) = (c, [], none)) := by
  unfold p11
  cases b with
  | nil => exact ⟨_, _, rfl, .inl ⟨rfl, rfl⟩⟩
  | cons a b =>
    have hl : decide (((a :: b).length : Int) = 0) = false := by simp; omega
    have ha : at? (a :: b) 0 = some a := rfl
    simp only [hl, Bool.false_eq_true, if_false, ha, Option.bind_eq_bind, Option.bind_some, sub_tail]
    by_cases h71 : (a.toNat : Int) = 71
    · have h71' : a = 71 := by
        have : a.toNat = (71 : UInt8).toNat := by simp; omega
        exact UInt8.toNat_inj.mp this
      subst h71'
      have h := p42_eq (b, none)
      have hw := wc_allR (b, none)
      obtain ⟨⟨c, r, e⟩, hq⟩ : ∃ q, allR (b, none) = q := ⟨_, rfl⟩
      rw [hq] at h hw
      simp only [er] at h hw
      simp only [h71, decide_true, Bool.not_true, Bool.false_eq_true, if_false, h, Option.bind_some]
      cases e with
      | some e => cases e <;> exact ⟨_, _, rfl, .inl ⟨rfl, rfl⟩⟩
      | none =>
        simp only [GErr.isNil, Bool.not_true, Bool.false_eq_true, if_false]
        cases r with
        | cons x r =>
          have : decide ((0 : Int) < ((x :: r).length : Int)) = true := by simp
          simp only [this, if_true]
          exact ⟨_, _, rfl, .inl ⟨rfl, rfl⟩⟩
        | nil =>
          simp only [List.length_nil, Int.ofNat_zero, Int.lt_irrefl, decide_false, Bool.false_eq_true, if_false]
          obtain ⟨g, hg⟩ := p43_ans hw
          rw [hg]
          cases g with
          | false => exact ⟨_, _, rfl, .inl ⟨rfl, rfl⟩⟩
          | true =>
            simp only [Option.bind_some, Bool.not_true, Bool.false_eq_true, if_false, p15_eq c (bytesC_len hw), p44]
            by_cases he : strOf (bytesC c) = strOf (71 :: b)
            · simp only [he, decide_true, Bool.not_true, Bool.false_eq_true, if_false]
              exact ⟨_, _, rfl, .inr ⟨c, rfl, rfl, by rw [p15_eq c (bytesC_len hw), strOf_inj he], p43_ins hg, b, rfl, hq⟩⟩
            · simp only [he, decide_false, Bool.not_false, if_true]
              exact ⟨_, _, rfl, .inl ⟨rfl, rfl⟩⟩
    · simp only [h71, decide_false, Bool.not_false, if_true]
      exact ⟨_, _, rfl, .inl ⟨rfl, rfl⟩⟩
theorem p10_true : p10 = some true := rfl
theorem l13_eq : ∀ (l xs : By), (xs.length + l.length) * 2 ≤ 140737488355328 → l13_1 l xs = some (xs ++ l)
  | [], xs, _ => by simp [l13_1]
  | a :: l, xs, h => by
    simp only [List.length_cons] at h
    rw [l13_1, app1?_ok (by omega)]
    simp only [Option.bind_eq_bind, Option.bind_some]
    rw [l13_eq l _ (by simp only [List.length_append, List.length_cons, List.length_nil]; omega)]
    simp
theorem p13_eq (b : By) (h : b.length ≤ 100000) : p13 b = some b := by
  have hm : mk0? 2 (b.length : Int) = some () := by rw [mk0?, if_pos ⟨by omega, by omega⟩]
  simp only [p13, hm, Option.bind_eq_bind, Option.bind_some, l13_eq b [] (by simp; omega)]
  rfl
theorem l14_eq (ys : By) : ∀ (l : By) (k : Nat), ys.drop k = l → l14_1 ys l (k : Int) = some (.go ())
  | [], _, _ => rfl
  | a :: l, k, h => by
    have hk : k < ys.length := by
      rcases Nat.lt_or_ge k ys.length with h' | h'
      · exact h'
      · rw [List.drop_of_length_le h'] at h; cases h
    rw [List.drop_eq_getElem_cons hk] at h
    injection h with h1 h2
    have ha : at? ys (k : Int) = some a := by rw [at?, if_pos (by omega), ← h1]; simp [hk]
    rw [l14_1]
    simp only [ha, Option.bind_eq_bind, Option.bind_some, decide_true, Bool.not_true, Bool.false_eq_true, if_false]
    exact l14_eq ys l (k + 1) h2
theorem p14_eq (b : By) : p14 b b = some true := by
  have := l14_eq b b 0 rfl
  simp only [p14, decide_true, Bool.not_true, Bool.false_eq_true, if_false]
  rw [show (0 : Int) = ((0 : Nat) : Int) from rfl, this]
  rfl

/-! ### Law 4 -/
theorem codeReads_plain (b : By) : p4 b = some true := by
  unfold p4
  simp only [p10_true, Option.bind_eq_bind, Option.bind_some, Bool.not_true, Bool.false_eq_true, if_false]
  by_cases hl : (2000 : Int) < (b.length : Int)
  · simp only [hl, decide_true, if_true]
  · obtain ⟨o, e, hp, h⟩ := p11_cases b
    simp only [hl, decide_false, Bool.false_eq_true, if_false, hp, Option.bind_some, p13_eq b (by omega)]
    rcases h with ⟨rfl, h⟩ | ⟨c, rfl, rfl, h1, h2, _⟩
    · simp [h]
    · simp [h1, p14_eq, p16, h2, GErr.isNil, show (1 : Int) ≤ (c.ins.length : Int) by omega]
end Go.Gw
