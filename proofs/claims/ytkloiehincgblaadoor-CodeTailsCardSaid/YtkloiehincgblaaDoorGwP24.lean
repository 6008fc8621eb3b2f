/- The writer of package code as a plain function, the bounds of what is read, and that the checks of a code always answer. -/
import Derived.Test.YtkloiehincgblaaDoorGwP23
namespace Go.Gw

/-! ### The writer -/
theorem app1_ok {xs : By} {v : UInt8} (h : xs.length + 1 ≤ 70368744177664) : app1? 2 xs v = some (xs ++ [v]) := by rw [app1?, if_pos (by omega)]
theorem u8_hi (x : Int) : u8? (Go.bits .or .u8 (IntKind.u8.wrap x) 128) = some (putHi x) := by
  have := bits_within .or .u8 (IntKind.u8.wrap x) 128
  have h : 0 ≤ Go.bits .or .u8 (IntKind.u8.wrap x) 128 ∧ Go.bits .or .u8 (IntKind.u8.wrap x) 128 ≤ 255 := by simpa [IntKind.min, IntKind.max, IntKind.signed, IntKind.bits] using this
  rw [u8?, if_pos h]; rfl
theorem u8_lo (x : Int) : u8? (IntKind.u8.wrap x) = some (putLo x) := by
  have h : IntKind.u8.wrap x = x % 256 := by simp [IntKind.wrap, IntKind.bits, IntKind.signed]
  rw [u8?, if_pos (by rw [h]; omega)]; rfl
theorem l47_eq : ∀ (k : Nat) (x : Int) (xs : By), 0 ≤ x → x < 128 ^ (k + 1) → xs.length + k ≤ 70368744177664 → ∃ ys z, l47_1 (xs, x) = some (xs ++ ys, z) ∧ putF k x = ys ++ [putLo z]
  | k, x, xs, h0, hx, hk => by
    rw [l47_1]
    by_cases h : 127 < x
    · obtain ⟨j, rfl, h1, h2, h3⟩ := putF_more h hx
      obtain ⟨ys, z, h4, h5⟩ := l47_eq j (putS x) (xs ++ [putHi x]) h2 h3 (by simp; omega)
      have hs : shr? .u64 x 7 = some (putS x) := rfl
      refine ⟨putHi x :: ys, z, ?_, by rw [h1, h5]; rfl⟩
      simp only [h, decide_true, if_true, u8_hi, Option.bind_eq_bind, Option.bind_some, app1_ok (xs := xs) (v := putHi x) (by omega), hs, h4]
      simp
    · exact ⟨[], x, by simp [h], by rw [putF_one (by omega)]; rfl⟩
theorem p47_eq (xs : By) (n : Int) (h : xs.length + 10 ≤ 70368744177664) : p47 xs n = some (xs ++ putL n) := by
  have hr := putX_range n
  have h1 : shl? .u64 (IntKind.u64.wrap n) 1 = some (IntKind.u64.wrap (IntKind.u64.wrap n * 2 ^ min (1 : Int).toNat IntKind.u64.bits)) := rfl
  have h2 : shr? .i64 n 63 = some (n.fdiv (2 ^ min (63 : Int).toNat IntKind.i64.bits)) := rfl
  obtain ⟨ys, z, h3, h4⟩ := l47_eq 9 (putX n) xs hr.1 (by omega) (by omega)
  have h5 := putF_len 9 (putX n)
  have h6 : ys.length + 1 ≤ 10 := by rw [h4] at h5; simpa using h5
  have h7 := h3
  unfold putX at h7
  simp only [p47, h1, h2, Option.bind_eq_bind, Option.bind_some, h7, u8_lo, app1_ok (xs := xs ++ ys) (v := putLo z) (by simp; omega)]
  rw [show putL n = putF 9 (putX n) from rfl, h4, List.append_assoc]
theorem l45_eq : ∀ (ns : List Int) (xs : By), xs.length + (putsL ns).length + 10 ≤ 70368744177664 → l45_1 ns xs = some (xs ++ putsL ns)
  | [], xs, _ => by simp [l45_1, putsL]
  | n :: ns, xs, h => by
    have e : putsL (n :: ns) = putL n ++ putsL ns := rfl
    rw [e] at h
    simp only [List.length_append] at h
    rw [l45_1, p47_eq _ _ (by omega)]
    simp only [Option.bind_eq_bind, Option.bind_some]
    rw [l45_eq ns _ (by simp; omega), e, List.append_assoc]
theorem p45_eq (xs : By) (ns : List Int) (h : xs.length + (putsL ns).length + 10 ≤ 70368744177664) : p45 xs ns = some (xs ++ putsL ns) := by rw [p45, l45_eq _ _ h]; rfl
theorem p46_eq (xs : By) (s : ByteArray) (h : xs.length + (putT s).length + 10 ≤ 70368744177664) : p46 xs s = some (xs ++ putT s) := by
  have hl : s.data.toList.length = s.size := by rw [Array.length_toList]; rfl
  have e : putT s = putL s.size ++ s.data.toList := rfl
  have e1 : putsL [(s.size : Int)] = putL s.size := by simp [putsL]
  rw [e, List.length_append] at h
  rw [p46, p45_eq _ _ (by rw [e1]; omega), e1]
  simp only [Option.bind_eq_bind, Option.bind_some]
  rw [appS?, if_pos (by simp; omega), e, List.append_assoc]
  rfl

theorem l15_1_eq : ∀ (l : List CTag) (xs : By), xs.length + (l.flatMap tagB).length + 10 ≤ 70368744177664 → l15_1 l xs = some (xs ++ l.flatMap tagB)
  | [], xs, _ => by simp [l15_1]
  | t :: l, xs, h => by
    have e : (t :: l).flatMap tagB = tagB t ++ l.flatMap tagB := rfl
    rw [e] at h
    simp only [List.length_append, tagB] at h
    rw [l15_1, p45_eq _ _ (by omega)]; simp only [Option.bind_eq_bind, Option.bind_some]
    rw [p46_eq _ _ (by simp only [List.length_append]; omega)]; simp only [Option.bind_some]
    rw [p45_eq _ _ (by simp only [List.length_append]; omega)]; simp only [Option.bind_some]
    rw [l15_1_eq l _ (by simp only [List.length_append]; omega)]
    rw [e, tagB]; simp only [List.append_assoc]
theorem l15_2_eq : ∀ (l : List CFun) (xs : By), xs.length + (l.flatMap funB).length + 10 ≤ 70368744177664 → l15_2 l xs = some (xs ++ l.flatMap funB)
  | [], xs, _ => by simp [l15_2]
  | t :: l, xs, h => by
    have e : (t :: l).flatMap funB = funB t ++ l.flatMap funB := rfl
    rw [e] at h
    simp only [List.length_append, funB] at h
    rw [l15_2, p45_eq _ _ (by omega)]; simp only [Option.bind_eq_bind, Option.bind_some]
    rw [l15_2_eq l _ (by simp only [List.length_append]; omega)]
    rw [e, funB]; simp only [List.append_assoc]
theorem l15_10_eq : ∀ (l : List CVal) (xs : By), xs.length + (l.flatMap valB).length + 10 ≤ 70368744177664 → l15_10 l xs = some (xs ++ l.flatMap valB)
  | [], xs, _ => by simp [l15_10]
  | t :: l, xs, h => by
    have e : (t :: l).flatMap valB = valB t ++ l.flatMap valB := rfl
    rw [e] at h
    simp only [List.length_append, valB] at h
    rw [l15_10, p45_eq _ _ (by omega)]; simp only [Option.bind_eq_bind, Option.bind_some]
    rw [p47_eq _ _ (by simp only [List.length_append]; omega)]; simp only [Option.bind_some]
    rw [l15_10_eq l _ (by simp only [List.length_append]; omega)]
    rw [e, valB]; simp only [List.append_assoc]
theorem l15_11_eq : ∀ (l : List CAlt) (xs : By), xs.length + (l.flatMap altB).length + 10 ≤ 70368744177664 → l15_11 l xs = some (xs ++ l.flatMap altB)
  | [], xs, _ => by simp [l15_11]
  | t :: l, xs, h => by
    have e : (t :: l).flatMap altB = altB t ++ l.flatMap altB := rfl
    rw [e] at h
    simp only [List.length_append, altB] at h
    rw [l15_11, p45_eq _ _ (by omega)]; simp only [Option.bind_eq_bind, Option.bind_some]
    rw [p47_eq _ _ (by simp only [List.length_append]; omega)]; simp only [Option.bind_some]
    rw [l15_11_eq l _ (by simp only [List.length_append]; omega)]
    rw [e, altB]; simp only [List.append_assoc]
theorem l15_9_eq : ∀ (l : List CIns) (xs : By), xs.length + (l.flatMap insB).length + 10 ≤ 70368744177664 → l15_9 l xs = some (xs ++ l.flatMap insB)
  | [], xs, _ => by simp [l15_9]
  | t :: l, xs, h => by
    have e : (t :: l).flatMap insB = insB t ++ l.flatMap insB := rfl
    rw [e] at h
    simp only [List.length_append, insB] at h
    rw [l15_9, p45_eq _ _ (by omega)]; simp only [Option.bind_eq_bind, Option.bind_some]
    rw [p47_eq _ _ (by simp only [List.length_append]; omega)]; simp only [Option.bind_some]
    rw [p46_eq _ _ (by simp only [List.length_append]; omega)]; simp only [Option.bind_some]
    rw [p45_eq _ _ (by simp only [List.length_append]; omega)]; simp only [Option.bind_some]
    rw [l15_10_eq _ _ (by simp only [List.length_append]; omega)]; simp only [Option.bind_some]
    rw [p45_eq _ _ (by simp only [List.length_append]; omega)]; simp only [Option.bind_some]
    rw [l15_11_eq _ _ (by simp only [List.length_append]; omega)]; simp only [Option.bind_some]
    rw [l15_9_eq l _ (by simp only [List.length_append]; omega)]
    rw [e, insB]; simp only [List.append_assoc]
theorem p15_eq (c : CCode) (h : (bytesC c).length + 10 ≤ 70368744177664) : p15 c = some (bytesC c) := by
  simp only [List.length_append, bytesC, List.length_cons, List.length_nil] at h
  rw [p15, p45_eq _ _ (by simp only [List.length_cons, List.length_nil]; omega)]; simp only [Option.bind_eq_bind, Option.bind_some]
  rw [l15_1_eq _ _ (by simp only [List.length_append, List.length_cons, List.length_nil]; omega)]; simp only [Option.bind_some]
  rw [p45_eq _ _ (by simp only [List.length_append, List.length_cons, List.length_nil]; omega)]; simp only [Option.bind_some]
  rw [l15_2_eq _ _ (by simp only [List.length_append, List.length_cons, List.length_nil]; omega)]; simp only [Option.bind_some]
  rw [p45_eq _ _ (by simp only [List.length_append, List.length_cons, List.length_nil]; omega)]; simp only [Option.bind_some]
  rw [l15_9_eq _ _ (by simp only [List.length_append, List.length_cons, List.length_nil]; omega)]; simp only [Option.bind_some]
  rw [bytesC]

/-! ### What is read is bounded -/
theorem many_len {α : Type} (f : RS → α × RS) : ∀ (n : Nat) (s : RS), (many f n s).1.length ≤ n
  | 0, s => by simp [many]
  | n + 1, (b, e) => by
    rw [many]
    cases e with
    | some e => simp
    | none => have := many_len f n (f (b, none)).2; simp only [List.length_cons]; omega
theorem many_mem {α : Type} (f : RS → α × RS) : ∀ (n : Nat) (s : RS) (x : α), x ∈ (many f n s).1 → ∃ s', x = (f s').1
  | 0, s, x, h => by simp [many] at h
  | n + 1, (b, e), x, h => by
    rw [many] at h
    cases e with
    | some e => simp at h
    | none =>
      simp only [List.mem_cons] at h
      rcases h with h | h
      · exact ⟨_, h⟩
      · exact many_mem f n _ x h
theorem inR_hi {lo hi : Int} (h0 : 0 ≤ lo) (h1 : 0 ≤ hi) (s : RS) : 0 ≤ (inR lo hi s).1 ∧ (inR lo hi s).1 ≤ hi := by
  rcases inR_range (lo := lo) (hi := hi) (.inr trivial) s with h | h <;> omega
theorem textR_len (s : RS) : (textR s).1.size ≤ 65536 := by
  have h := count_range (most := 65536) (by decide) s
  unfold textR
  generalize count 65536 s = q at *
  obtain ⟨n, b, e⟩ := q
  simp only at h ⊢
  show (List.take n.toNat b).toArray.size ≤ 65536
  simp only [List.size_toArray, List.length_take]
  omega

structure WT (t : CTag) : Prop where
  name : t.name.size ≤ 65536
  fn : 0 ≤ t.fn
structure WF' (f : CFun) : Prop where
  at_ : 0 ≤ f.at_
structure WI (x : CIns) : Prop where
  prim : x.prim.size ≤ 65536
  tag : 0 ≤ x.tag
  fn : 0 ≤ x.fn
  vals : x.vals.length ≤ 262144
  alts : x.alts.length ≤ 60
structure WC (c : CCode) : Prop where
  tags : c.tags.length ≤ 262144
  funs : c.funs.length ≤ 262144
  ins : c.ins.length ≤ 262144
  main : 0 ≤ c.main
  tag : ∀ t ∈ c.tags, WT t
  fun_ : ∀ f ∈ c.funs, WF' f
  in_ : ∀ x ∈ c.ins, WI x
theorem wt_tagR (s : RS) : WT (tagR s).1 := by
  unfold tagR
  exact ⟨textR_len _, (inR_hi (by decide) (by decide) _).1⟩
theorem wf_funR (s : RS) : WF' (funR s).1 := by
  unfold funR
  exact ⟨(inR_hi (by decide) (by decide) _).1⟩
theorem wi_insR (s : RS) : WI (insR s).1 := by
  obtain ⟨⟨o1, s1⟩, q1⟩ : ∃ q, inR 0 12 s = q := ⟨_, rfl⟩
  obtain ⟨⟨o2, s2⟩, q2⟩ : ∃ q, inR 0 262144 s1 = q := ⟨_, rfl⟩
  obtain ⟨⟨o3, s3⟩, q3⟩ : ∃ q, inR 0 262144 s2 = q := ⟨_, rfl⟩
  obtain ⟨⟨o4, s4⟩, q4⟩ : ∃ q, inR 0 262144 s3 = q := ⟨_, rfl⟩
  obtain ⟨⟨o5, s5⟩, q5⟩ : ∃ q, num s4 = q := ⟨_, rfl⟩
  obtain ⟨⟨o6, s6⟩, q6⟩ : ∃ q, textR s5 = q := ⟨_, rfl⟩
  obtain ⟨⟨o7, s7⟩, q7⟩ : ∃ q, count 262144 s6 = q := ⟨_, rfl⟩
  obtain ⟨⟨vs, s8⟩, q8⟩ : ∃ q, many valR o7.toNat s7 = q := ⟨_, rfl⟩
  obtain ⟨⟨o9, s9⟩, q9⟩ : ∃ q, count 60 s8 = q := ⟨_, rfl⟩
  obtain ⟨⟨ws, s10⟩, q10⟩ : ∃ q, many altR o9.toNat s9 = q := ⟨_, rfl⟩
  have hI : insR s = (⟨o1, o2, o3, o4, o5, o6, vs, ws⟩, s10) := by simp only [insR, q1, q2, q3, q4, q5, q6, q7, q8, q9, q10]
  rw [hI]
  have c7 := count_range (most := 262144) (by decide) s6
  have c9 := count_range (most := 60) (by decide) s8
  have i3 := inR_hi (lo := 0) (hi := 262144) (by decide) (by decide) s2
  have i4 := inR_hi (lo := 0) (hi := 262144) (by decide) (by decide) s3
  have t6 := textR_len s5
  have v8 := many_len valR o7.toNat s7
  have v10 := many_len altR o9.toNat s9
  rw [q7] at c7; rw [q9] at c9; rw [q3] at i3; rw [q4] at i4; rw [q6] at t6; rw [q8] at v8; rw [q10] at v10
  simp only at c7 c9 i3 i4 t6 v8 v10
  exact ⟨t6, i3.1, i4.1, by simp only; omega, by simp only; omega⟩
theorem wc_allR (s : RS) : WC (allR s).1 := by
  obtain ⟨⟨c1, s1⟩, q1⟩ : ∃ q, count 262144 s = q := ⟨_, rfl⟩
  obtain ⟨⟨ts, s2⟩, q2⟩ : ∃ q, many tagR c1.toNat s1 = q := ⟨_, rfl⟩
  obtain ⟨⟨c2, s3⟩, q3⟩ : ∃ q, count 262144 s2 = q := ⟨_, rfl⟩
  obtain ⟨⟨fs, s4⟩, q4⟩ : ∃ q, many funR c2.toNat s3 = q := ⟨_, rfl⟩
  obtain ⟨⟨mn, s5⟩, q5⟩ : ∃ q, inR 0 262144 s4 = q := ⟨_, rfl⟩
  obtain ⟨⟨c3, s6⟩, q6⟩ : ∃ q, count 262144 s5 = q := ⟨_, rfl⟩
  obtain ⟨⟨is, s7⟩, q7⟩ : ∃ q, many insR c3.toNat s6 = q := ⟨_, rfl⟩
  have hI : allR s = (⟨ts, fs, is, mn⟩, s7) := by simp only [allR, q1, q2, q3, q4, q5, q6, q7]
  have d1 := count_range (most := 262144) (by decide) s
  have d2 := count_range (most := 262144) (by decide) s2
  have d3 := count_range (most := 262144) (by decide) s5
  have i5 := inR_hi (lo := 0) (hi := 262144) (by decide) (by decide) s4
  have l2 := many_len tagR c1.toNat s1
  have l4 := many_len funR c2.toNat s3
  have l7 := many_len insR c3.toNat s6
  have m2 := many_mem tagR c1.toNat s1
  have m4 := many_mem funR c2.toNat s3
  have m7 := many_mem insR c3.toNat s6
  rw [q1] at d1; rw [q3] at d2; rw [q6] at d3; rw [q5] at i5; rw [q2] at l2 m2; rw [q4] at l4 m4; rw [q7] at l7 m7
  simp only at d1 d2 d3 i5 l2 l4 l7 m2 m4 m7
  rw [hI]
  refine ⟨by simp only; omega, by simp only; omega, by simp only; omega, i5.1, fun t h => ?_, fun t h => ?_, fun t h => ?_⟩
  · obtain ⟨s', rfl⟩ := m2 _ h
    exact wt_tagR s'
  · obtain ⟨s', rfl⟩ := m4 _ h
    exact wf_funR s'
  · obtain ⟨s', rfl⟩ := m7 _ h
    exact wi_insR s'
theorem fm_len {α : Type} {f : α → By} {K : Nat} : ∀ l : List α, (∀ x ∈ l, (f x).length ≤ K) → (l.flatMap f).length ≤ l.length * K
  | [], _ => by simp
  | x :: l, h => by
    have h1 := fm_len (f := f) (K := K) l (fun y hy => h y (List.mem_cons_of_mem _ hy))
    have h2 := h x List.mem_cons_self
    simp only [List.flatMap_cons, List.length_append, List.length_cons, Nat.succ_mul]
    omega
theorem putT_le (s : ByteArray) : (putT s).length ≤ 10 + s.size := by
  have h1 : s.data.toList.length = s.size := by rw [Array.length_toList]; rfl
  have h2 := putL_len s.size
  simp only [putT, List.length_append]; omega
theorem bytesC_len {c : CCode} (h : WC c) : (bytesC c).length + 10 ≤ 70368744177664 := by
  have ht : (c.tags.flatMap tagB).length ≤ c.tags.length * 65600 := fm_len _ fun t ht => by
    have h1 := putT_le t.name
    have h2 := (h.tag t ht).name
    have h3 := putsL_len [t.kind]
    have h4 := putsL_len [t.fn, t.n]
    simp only [tagB, List.length_append, List.length_cons, List.length_nil] at *; omega
  have hf : (c.funs.flatMap funB).length ≤ c.funs.length * 30 := fm_len _ fun t ht => putsL_len _
  have hi : (c.ins.flatMap insB).length ≤ c.ins.length * 5400000 := fm_len _ fun x hx => by
    have w := h.in_ x hx
    have hv : (x.vals.flatMap valB).length ≤ x.vals.length * 20 := fm_len _ fun v _ => by
      have h3 := putsL_len [v.kind]
      have h4 := putL_len v.n
      simp only [valB, List.length_append, List.length_cons, List.length_nil] at *; omega
    have ha : (x.alts.flatMap altB).length ≤ x.alts.length * 40 := fm_len _ fun v _ => by
      have h3 := putsL_len [v.take, v.tag, v.to]
      have h4 := putL_len v.n
      simp only [altB, List.length_append, List.length_cons, List.length_nil] at *; omega
    have h1 := putT_le x.prim
    have h2 := w.prim
    have h3 := putsL_len [x.op, x.to, x.tag, x.fn]
    have h4 := putL_len x.n
    have h5 := putsL_len [(x.vals.length : Int)]
    have h6 := putsL_len [(x.alts.length : Int)]
    have h7 := w.vals
    have h8 := w.alts
    simp only [insB, List.length_append, List.length_cons, List.length_nil] at *; omega
  have h1 := putsL_len [(c.tags.length : Int)]
  have h2 := putsL_len [(c.funs.length : Int)]
  have h3 := putsL_len [c.main, (c.ins.length : Int)]
  have h4 := h.tags
  have h5 := h.funs
  have h6 := h.ins
  simp only [bytesC, List.length_append, List.length_cons, List.length_nil] at *
  omega
end Go.Gw
