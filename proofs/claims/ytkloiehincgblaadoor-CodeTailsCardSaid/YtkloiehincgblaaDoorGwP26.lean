/- A reading that ends well reads the same before a longer tail; law 3 as a plain law. -/
import Derived.Test.YtkloiehincgblaaDoorGwP25
namespace Go.Gw

/-- A reader keeps an error, and reads the same ahead of any tail. -/
structure Rdr {α : Type} (f : RS → α × RS) : Prop where
  stop : ∀ b e, ∃ e', (f (b, some e)).2.2 = some e'
  ext : ∀ b t a r, f (b, none) = (a, r, none) → f (b ++ t, none) = (a, r ++ t, none)

theorem numF_ext (t : By) : ∀ (b : By) (i : Nat) (x a : Int) (r : By), numF i x b = (a, r, none) → numF i x (b ++ t) = (a, r ++ t, none)
  | [], i, x, a, r, h => by simp [numF] at h
  | c :: b, i, x, a, r, h => by
    rw [numF] at h
    rw [List.cons_append, numF]
    split at h
    · simp at h
    · rename_i h1
      rw [if_neg h1]
      split at h
      · rename_i h2
        rw [if_pos h2]
        simp only [Prod.mk.injEq] at h ⊢
        exact ⟨h.1, by rw [h.2.1], trivial⟩
      · rename_i h2
        rw [if_neg h2]
        exact numF_ext t b _ _ _ _ h
theorem ext_num : Rdr num where
  stop b e := ⟨e, rfl⟩
  ext b t a r h := numF_ext t b 0 0 a r h
theorem ext_inR (lo hi : Int) : Rdr (inR lo hi) where
  stop b e := ⟨e, rfl⟩
  ext b t a r h := by
    unfold inR at h ⊢
    obtain ⟨⟨n, s, e⟩, q⟩ : ∃ q, num (b, none) = q := ⟨_, rfl⟩
    rw [q] at h
    cases e with
    | some e => simp at h
    | none =>
      rw [ext_num.ext b t n s q]
      simp only at h ⊢
      split at h
      · simp at h
      · rename_i h1
        rw [if_neg h1]
        simp only [Prod.mk.injEq] at h ⊢
        exact ⟨h.1, by rw [h.2.1], trivial⟩
theorem ext_count (most : Int) : Rdr (count most) where
  stop b e := by
    obtain ⟨e', h⟩ := (ext_inR 0 most).stop b e
    unfold count
    obtain ⟨⟨n, s, e1⟩, q⟩ : ∃ q, inR 0 most (b, some e) = q := ⟨_, rfl⟩
    rw [q] at h
    rw [q]
    simp only at h ⊢
    split
    · exact ⟨_, rfl⟩
    · exact ⟨_, h⟩
  ext b t a r h := by
    unfold count at h ⊢
    obtain ⟨⟨n, s, e⟩, q⟩ : ∃ q, inR 0 most (b, none) = q := ⟨_, rfl⟩
    rw [q] at h
    cases e with
    | some e =>
      simp only at h
      split at h <;> simp at h
    | none =>
      rw [(ext_inR 0 most).ext b t n s q]
      simp only at h ⊢
      split at h
      · simp at h
      · rename_i h1
        rw [if_neg (by simp only [List.length_append]; omega)]
        simp only [Prod.mk.injEq] at h ⊢
        exact ⟨h.1, by rw [h.2.1], trivial⟩
theorem ext_text : Rdr textR where
  stop b e := by
    obtain ⟨e', h⟩ := (ext_count 65536).stop b e
    exact ⟨e', by unfold textR; exact h⟩
  ext b t a r h := by
    have hc := count_range (most := 65536) (by decide) (b, none)
    unfold textR at h ⊢
    obtain ⟨⟨n, s, e⟩, q⟩ : ∃ q, count 65536 (b, none) = q := ⟨_, rfl⟩
    rw [q] at h hc
    cases e with
    | some e => simp at h
    | none =>
      rw [(ext_count 65536).ext b t n s q]
      simp only [Prod.mk.injEq] at h hc ⊢
      have hn : n.toNat ≤ s.length := by omega
      rw [List.take_append_of_le_length hn, List.drop_append_of_le_length hn]
      exact ⟨h.1, by rw [h.2.1], trivial⟩
theorem many_stop {α : Type} (f : RS → α × RS) (k : Nat) (b : By) (e : Er) : many f k (b, some e) = ([], (b, some e)) := by
  cases k <;> rfl
theorem ext_many {α : Type} {f : RS → α × RS} (hf : Rdr f) : ∀ k : Nat, Rdr (many f k)
  | 0 => ⟨fun b e => ⟨e, rfl⟩, fun b t a r h => by
      simp only [many, Prod.mk.injEq] at h ⊢
      exact ⟨h.1, by rw [h.2.1], trivial⟩⟩
  | k + 1 => ⟨fun b e => ⟨e, rfl⟩, fun b t a r h => by
      have ih := ext_many hf k
      rw [many] at h ⊢
      simp only at h ⊢
      obtain ⟨⟨x, s, e⟩, q⟩ : ∃ q, f (b, none) = q := ⟨_, rfl⟩
      rw [q] at h
      cases e with
      | some e => simp [many_stop] at h
      | none =>
        rw [hf.ext b t x s q]
        obtain ⟨⟨xs, s', e'⟩, q'⟩ : ∃ q, many f k (s, none) = q := ⟨_, rfl⟩
        rw [q'] at h
        simp only [Prod.mk.injEq] at h ⊢
        obtain ⟨h1, h2, h3⟩ := h
        subst h3
        rw [ih.ext s t xs s' q']
        simp only [h1, h2, and_self]⟩

/-- One reader after another. -/
def seqR {α β γ : Type} (f : RS → α × RS) (g : α → RS → β × RS) (h : α → β → γ) (s : RS) : γ × RS := (h (f s).1 (g (f s).1 (f s).2).1, (g (f s).1 (f s).2).2)
theorem ext_seq {α β γ : Type} {f : RS → α × RS} {g : α → RS → β × RS} {h : α → β → γ} (hf : Rdr f) (hg : ∀ a, Rdr (g a)) : Rdr (seqR f g h) where
  stop b e := by
    obtain ⟨e', h1⟩ := hf.stop b e
    obtain ⟨⟨a, s, e1⟩, q⟩ : ∃ q, f (b, some e) = q := ⟨_, rfl⟩
    rw [q] at h1
    simp only at h1
    subst h1
    obtain ⟨e2, h2⟩ := (hg a).stop s e'
    exact ⟨e2, by simp only [seqR, q, h2]⟩
  ext b t a r hh := by
    obtain ⟨⟨x, s, e⟩, q⟩ : ∃ q, f (b, none) = q := ⟨_, rfl⟩
    cases e with
    | some e =>
      obtain ⟨e2, h2⟩ := (hg x).stop s e
      simp only [seqR, q, Prod.mk.injEq] at hh
      obtain ⟨_, hh⟩ := hh
      rw [hh] at h2
      cases h2
    | none =>
      obtain ⟨⟨y, s', e'⟩, q'⟩ : ∃ q, g x (s, none) = q := ⟨_, rfl⟩
      simp only [seqR, q, q', Prod.mk.injEq] at hh
      obtain ⟨h1, h2, h3⟩ := hh
      subst h3
      simp only [seqR, hf.ext b t x s q, (hg x).ext s t y s' q', h1, h2]
theorem ext_pure {α : Type} (a : α) : Rdr (fun s => (a, s)) := ⟨fun b e => ⟨e, rfl⟩, fun b t x r h => by simp only [Prod.mk.injEq] at h ⊢; exact ⟨h.1, by rw [h.2.1], trivial⟩⟩
theorem ext_of {α : Type} {f g : RS → α × RS} (h : ∀ s, f s = g s) (hg : Rdr g) : Rdr f := by rw [funext h]; exact hg

theorem ext_val : Rdr valR := ext_of (g := seqR (inR 0 2) (fun a => num) fun a b => ⟨a, b⟩) (fun _ => rfl) (ext_seq (ext_inR _ _) fun _ => ext_num)
theorem ext_alt : Rdr altR := ext_of (g := seqR (inR 1 3) (fun a => seqR (inR 0 262144) (fun b => seqR (inR 0 262144) (fun c => num) fun c d => (c, d)) fun b q => (b, q)) fun a q => ⟨a, q.1, q.2.1, q.2.2⟩) (fun _ => rfl)
  (ext_seq (ext_inR _ _) fun _ => ext_seq (ext_inR _ _) fun _ => ext_seq (ext_inR _ _) fun _ => ext_num)
theorem ext_tag : Rdr tagR := ext_of (g := seqR (inR 1 6) (fun a => seqR textR (fun b => seqR (inR 0 262144) (fun c => inR 0 60) fun c d => (c, d)) fun b q => (b, q)) fun a q => ⟨a, q.1, q.2.1, q.2.2⟩) (fun _ => rfl)
  (ext_seq (ext_inR _ _) fun _ => ext_seq ext_text fun _ => ext_seq (ext_inR _ _) fun _ => ext_inR _ _)
theorem ext_fun : Rdr funR := ext_of (g := seqR (inR 0 262144) (fun b => seqR (inR 0 524288) (fun c => inR 0 262144) fun c d => (c, d)) fun b q => ⟨b, q.1, q.2⟩) (fun _ => rfl)
  (ext_seq (ext_inR _ _) fun _ => ext_seq (ext_inR _ _) fun _ => ext_inR _ _)
theorem ext_ins : Rdr insR := ext_of (g := seqR (inR 0 12) (fun _ => seqR (inR 0 262144) (fun _ => seqR (inR 0 262144) (fun _ => seqR (inR 0 262144) (fun _ => seqR num (fun _ => seqR textR (fun _ =>
      seqR (seqR (count 262144) (fun k => many valR k.toNat) fun _ b => b) (fun _ => seqR (count 60) (fun k => many altR k.toNat) fun _ b => b) fun a b => (a, b)) fun a b => (a, b)) fun a b => (a, b)) fun a b => (a, b)) fun a b => (a, b)) fun a b => (a, b))
      fun a q => ⟨a, q.1, q.2.1, q.2.2.1, q.2.2.2.1, q.2.2.2.2.1, q.2.2.2.2.2.1, q.2.2.2.2.2.2⟩) (fun s => by
  obtain ⟨⟨o1, s1⟩, q1⟩ : ∃ q, inR 0 12 s = q := ⟨_, rfl⟩
  obtain ⟨⟨o2, s2⟩, q2⟩ : ∃ q, inR 0 262144 s1 = q := ⟨_, rfl⟩
  obtain ⟨⟨o3, s3⟩, q3⟩ : ∃ q, inR 0 262144 s2 = q := ⟨_, rfl⟩
  obtain ⟨⟨o4, s4⟩, q4⟩ : ∃ q, inR 0 262144 s3 = q := ⟨_, rfl⟩
  obtain ⟨⟨o5, s5⟩, q5⟩ : ∃ q, num s4 = q := ⟨_, rfl⟩
  obtain ⟨⟨o6, s6⟩, q6⟩ : ∃ q, textR s5 = q := ⟨_, rfl⟩
  obtain ⟨⟨o7, s7⟩, q7⟩ : ∃ q, count 262144 s6 = q := ⟨_, rfl⟩
  obtain ⟨⟨vs, s8⟩, q8⟩ : ∃ q, many valR o7.toNat s7 = q := ⟨_, rfl⟩
  obtain ⟨⟨o9, s9⟩, q9⟩ : ∃ q, count 60 s8 = q := ⟨_, rfl⟩
  obtain ⟨⟨ws, s10⟩, q10⟩ : ∃ q, many altR o9.toNat s9 = q := ⟨_, rfl⟩
  simp only [insR, seqR, q1, q2, q3, q4, q5, q6, q7, q8, q9, q10])
  (ext_seq (ext_inR _ _) fun _ => ext_seq (ext_inR _ _) fun _ => ext_seq (ext_inR _ _) fun _ => ext_seq (ext_inR _ _) fun _ => ext_seq ext_num fun _ => ext_seq ext_text fun _ =>
    ext_seq (ext_seq (ext_count _) fun _ => ext_many ext_val _) fun _ => ext_seq (ext_count _) fun _ => ext_many ext_alt _)
theorem ext_all : Rdr allR := ext_of (g := seqR (seqR (count 262144) (fun k => many tagR k.toNat) fun _ b => b) (fun _ => seqR (seqR (count 262144) (fun k => many funR k.toNat) fun _ b => b) (fun _ =>
      seqR (inR 0 262144) (fun _ => seqR (count 262144) (fun k => many insR k.toNat) fun _ b => b) fun a b => (a, b)) fun a b => (a, b)) fun a q => ⟨a, q.1, q.2.2, q.2.1⟩) (fun s => by
  obtain ⟨⟨c1, s1⟩, q1⟩ : ∃ q, count 262144 s = q := ⟨_, rfl⟩
  obtain ⟨⟨ts, s2⟩, q2⟩ : ∃ q, many tagR c1.toNat s1 = q := ⟨_, rfl⟩
  obtain ⟨⟨c2, s3⟩, q3⟩ : ∃ q, count 262144 s2 = q := ⟨_, rfl⟩
  obtain ⟨⟨fs, s4⟩, q4⟩ : ∃ q, many funR c2.toNat s3 = q := ⟨_, rfl⟩
  obtain ⟨⟨mn, s5⟩, q5⟩ : ∃ q, inR 0 262144 s4 = q := ⟨_, rfl⟩
  obtain ⟨⟨c3, s6⟩, q6⟩ : ∃ q, count 262144 s5 = q := ⟨_, rfl⟩
  obtain ⟨⟨is, s7⟩, q7⟩ : ∃ q, many insR c3.toNat s6 = q := ⟨_, rfl⟩
  simp only [allR, seqR, q1, q2, q3, q4, q5, q6, q7])
  (ext_seq (ext_seq (ext_count _) fun _ => ext_many ext_tag _) fun _ => ext_seq (ext_seq (ext_count _) fun _ => ext_many ext_fun _) fun _ =>
    ext_seq (ext_inR _ _) fun _ => ext_seq (ext_count _) fun _ => ext_many ext_ins _)

/-- Of two readings that end well, neither is ahead of the other. -/
theorem p11_tail {b t : By} {c : CCode} {e : GErr} {c' : CCode} {e' : GErr} (h : p11 b = some (some c, e)) (h' : p11 (b ++ t) = some (some c', e')) : t = [] := by
  obtain ⟨o, x, h1, h2⟩ := p11_cases b
  obtain ⟨o', x', h1', h2'⟩ := p11_cases (b ++ t)
  rw [h] at h1
  rw [h'] at h1'
  cases h1; cases h1'
  rcases h2 with ⟨h2, _⟩ | ⟨_, _, _, _, _, r, hr, ha⟩
  · cases h2
  rcases h2' with ⟨h2', _⟩ | ⟨_, _, _, _, _, r', hr', ha'⟩
  · cases h2'
  subst hr
  rw [List.cons_append] at hr'
  injection hr' with _ hr'
  subst hr'
  have := ext_all.ext r t _ _ ha
  rw [ha'] at this
  simp only [Prod.mk.injEq, List.nil_append, and_true] at this
  exact this.2.symm

theorem p12_eq (n m : Int) (hm : 0 < m) (hm' : m ≤ 1000000) : ∃ k, p12 n m = some k ∧ 0 ≤ k ∧ k < m := by
  have h1 : rem? n m = some (n.tmod m) := by rw [rem?, if_neg (by omega)]
  have h2 := Int.tmod_lt_of_pos n hm
  have h3 : -m < n.tmod m := by
    have := Int.lt_tmod_of_pos n hm
    omega
  simp only [p12, h1, Option.bind_eq_bind, Option.bind_some]
  by_cases h : n.tmod m < 0
  · refine ⟨n.tmod m + m, ?_, by omega, by omega⟩
    simp only [h, decide_true, if_true]
    rw [i64_small (by omega)]
  · exact ⟨n.tmod m, by simp [h], by omega, h2⟩

/-! ### Law 3 -/
theorem codeTails_plain (b s : By) (n : Int) : p3 b s n = some true := by
  unfold p3
  simp only [p10_true, Option.bind_eq_bind, Option.bind_some, Bool.not_true, Bool.false_eq_true, if_false]
  by_cases hl : (1000 : Int) < (b.length : Int)
  · simp [hl]
  by_cases hs : (100 : Int) < (s.length : Int)
  · simp [hl, hs]
  simp only [hl, hs, decide_false, Bool.false_eq_true, if_false, Option.bind_some]
  obtain ⟨o, e, hp, h⟩ := p11_cases b
  rw [hp]
  rcases h with ⟨rfl, h⟩ | ⟨c, rfl, rfl, h1, h2, b', hb, ha⟩
  · simp [h]
  · have hb0 : 0 < b.length := by rw [hb]; simp
    obtain ⟨k, hk, hk0, hk1⟩ := p12_eq n (b.length : Int) (by omega) (by omega)
    have hsub : sub? b 0 k = some (b.take k.toNat) := by rw [sub?, if_pos ⟨by omega, hk0, by omega⟩]; simp
    have happ : app? 2 b s = some (b ++ s) := by rw [app?, if_pos (by omega)]
    obtain ⟨o1, e1, hp1, q1⟩ := p11_cases (b.take k.toNat)
    obtain ⟨o2, e2, hp2, q2⟩ := p11_cases (b ++ s)
    have hcut : e1.isNil = false := by
      rcases q1 with ⟨_, q⟩ | ⟨c1, rfl, _⟩
      · exact q
      · have hp' : p11 (b.take k.toNat ++ b.drop k.toNat) = some (some c, .nil) := by rw [List.take_append_drop]; exact hp
        have := p11_tail hp1 hp'
        have hlen : (b.drop k.toNat).length = 0 := by rw [this]; rfl
        rw [List.length_drop] at hlen
        omega
    have htail : (!e2.isNil) = decide ((0 : Int) < (s.length : Int)) := by
      rcases q2 with ⟨rfl, q⟩ | ⟨c2, rfl, q, _⟩
      · rw [q]
        cases s with
        | nil =>
          rw [List.append_nil] at hp2
          rw [hp] at hp2
          cases hp2
        | cons x s => simp
      · have := p11_tail hp hp2
        subst this
        subst q
        rfl
    have hn : GErr.nil.isNil = true := rfl
    simp only [hn, Bool.not_true, Bool.false_eq_true, if_false, Option.isNone_some, Option.bind_some, hk, hsub, hp1, p13_eq b (by omega), happ, hp2, hcut, Bool.not_false, if_true, htail, beq_self_eq_true]
end Go.Gw
