/- The plain functions of package code, held against their specifications (GwCode, GwPut). -/
import Derived.Test.YtkloiehincgblaaDoorGwC4
namespace Go.Gw

def er : Option Er → GErr
  | none => .nil
  | some .end_ => .s 0
  | some .shape => .s 1
  | some .range => .s 2
theorem er_nil (e : Option Er) : (er e).isNil = e.isNone := by cases e with | none => rfl | some e => cases e <;> rfl
def out {α : Type} (q : α × RS) : α × By × GErr := (q.1, q.2.1, er q.2.2)

theorem i64_small {n : Int} (h : -9223372036854775808 ≤ n ∧ n < 9223372036854775808) : i64 n = n := wrap64_in h
theorem sub_tail (c : UInt8) (b : By) : sub? (c :: b) 1 (((c :: b).length : Nat) : Int) = some b := by
  have h : (0 : Int) ≤ 1 ∧ (1 : Int) ≤ (((c :: b).length : Nat) : Int) ∧ (((c :: b).length : Nat) : Int) ≤ (((c :: b).length : Nat) : Int) := by simp only [List.length_cons]; omega
  rw [sub?, if_pos h]
  simp
theorem ite_tt {α : Type} {p : Prop} [Decidable p] {x y : α} (h : p) : (if (decide p) = true then x else y) = x := by simp [h]

/-! ### Numbers -/
theorem num_loop : ∀ (b : By) (i : Nat) (x : Int), i ≤ 9 → l117_1 .nil (x, (i : Int), b) = some (.ret (out (numF i x b)))
  | [], i, x, _ => by
    rw [l117_1]
    simp [GErr.isNil, numF, out, er]
  | c :: b, i, x, hi => by
    rw [l117_1]
    have h7 : i64 (7 * (i : Int)) = 7 * (i : Int) := i64_small (by omega)
    have hs : shl? .u64 (IntKind.u64.wrap (Go.bits .and .u8 (c.toNat : Int) 127)) (i64 (7 * (i : Int))) = some (IntKind.u64.wrap (IntKind.u64.wrap (Go.bits .and .u8 c.toNat 127) * 2 ^ min (7 * (i : Int)).toNat 64)) := by
      rw [h7, shl?, if_neg (by omega)]; rfl
    have hat : at? (c :: b) 0 = some c := rfl
    have hn : (numStep i x c) = Go.bits .or .u64 x (IntKind.u64.wrap (IntKind.u64.wrap (Go.bits .and .u8 c.toNat 127) * 2 ^ min (7 * (i : Int)).toNat 64)) := rfl
    have hlen : decide (((c :: b).length : Int) = 0) = false := by simp; omega
    have hend : shr? .u64 (numStep i x c) 1 = some ((numStep i x c).fdiv (2 ^ min (1 : Int).toNat 64)) := rfl
    have h1 : i64 ((i : Int) + 1) = ((i + 1 : Nat) : Int) := by rw [i64_small (by omega)]; omega
    simp only [GErr.isNil, if_true, hlen, Bool.false_eq_true, if_false, hat, sub_tail, hs, ← hn, Option.bind_eq_bind, Option.bind_some, hend, h1, decide_eq_true_eq]
    rw [numF]
    by_cases e1 : (i : Int) = 9
    · have e1' : i = 9 := by omega
      by_cases e2 : (1 : Int) < c.toNat
      · simp [e1, e2, e1', out, er, show 1 < c.toNat by omega]
      · have e2' : ¬ 1 < c.toNat := by omega
        by_cases e3 : (c.toNat : Int) = 0
        · have e3' : c.toNat = 0 := by omega
          simp [e1, e1', e3', out, er]
        · have e3' : ¬ c.toNat = 0 := by omega
          have e4 : (c.toNat : Int) < 128 := by omega
          have e4' : c.toNat < 128 := by omega
          simp [e1, e2, e3, e1', e2', e3', e4, e4', out, er, numEnd]
    · have e1' : ¬ i = 9 := by omega
      by_cases e0 : (0 : Int) < i
      · have e0' : 0 < i := by omega
        by_cases e3 : (c.toNat : Int) = 0
        · have e3' : c.toNat = 0 := by omega
          simp [e1, e1', e0, e0', e3', out, er]
        · have e3' : ¬ c.toNat = 0 := by omega
          by_cases e4 : (c.toNat : Int) < 128
          · have e4' : c.toNat < 128 := by omega
            simp [e1, e3, e0, e1', e3', e0', e4, e4', out, er, numEnd]
          · have e4' : ¬ c.toNat < 128 := by omega
            simp only [e1, e3, e0, e1', e3', e0', e4, e4', if_true, if_false, false_and, true_and, or_false, Option.bind_some, false_or]
            exact num_loop b (i + 1) _ (by omega)
      · have e0' : ¬ 0 < i := by omega
        by_cases e4 : (c.toNat : Int) < 128
        · have e4' : c.toNat < 128 := by omega
          simp [e1, e0, e1', e0', e4, e4', out, er, numEnd]
        · have e4' : ¬ c.toNat < 128 := by omega
          simp only [e1, e0, e1', e0', e4, e4', if_true, if_false, false_and, true_and, or_false, Option.bind_some, false_or]
          exact num_loop b (i + 1) _ (by omega)

theorem p117_eq (s : RS) : p117 s.1 (er s.2) = some (out (num s)) := by
  obtain ⟨b, e⟩ := s
  cases e with
  | none =>
    have h0 : l117_1 .nil (0, (0 : Int), b) = some (.ret (out (numF 0 0 b))) := num_loop b 0 0 (by omega)
    simp only [p117, er]
    rw [h0]; rfl
  | some e =>
    have h : (er (some e)).isNil = false := by cases e <;> rfl
    simp only [p117]
    rw [l117_1]
    simp [h, num, out]

theorem er_cases (e : Option Er) : (e = none ∧ (er e).isNil = true) ∨ (∃ x, e = some x ∧ (er e).isNil = false) := by
  cases e with
  | none => exact .inl ⟨rfl, rfl⟩
  | some x => exact .inr ⟨x, rfl, by cases x <;> rfl⟩
theorem p82_eq (lo hi : Int) (s : RS) : p82 lo hi s.1 (er s.2) = some (out (inR lo hi s)) := by
  rw [p82, p117_eq]
  generalize hq : num s = q
  obtain ⟨n, b, e⟩ := q
  simp only [Option.bind_eq_bind, Option.bind_some, out, inR, hq]
  cases e with
  | none =>
    have h2 : (er none).isNil = true := rfl
    have h3 : (GErr.s 2).isNil = false := rfl
    by_cases h : n < lo
    · simp [er, h, GErr.isNil]
    · by_cases h' : hi < n
      · simp [er, h, h', GErr.isNil]
      · simp [er, h, h', GErr.isNil]
  | some e =>
    have h : (er (some e)).isNil = false := by cases e <;> rfl
    simp [h]
theorem p81_eq (most : Int) (s : RS) : p81 most s.1 (er s.2) = some (out (count most s)) := by
  rw [p81, p82_eq]
  generalize hq : inR 0 most s = q
  obtain ⟨n, b, e⟩ := q
  simp only [Option.bind_eq_bind, Option.bind_some, out, count, hq]
  by_cases h : (b.length : Int) < n
  · simp [h, er]
  · simp [h]
theorem p83_eq (s : RS) : p83 s.1 (er s.2) = some (out (textR s)) := by
  rw [p83, p81_eq]
  have hr := count_range (most := 65536) (by decide) s
  generalize hq : count 65536 s = q at hr ⊢
  obtain ⟨n, b, e⟩ := q
  obtain ⟨h0, _, h2⟩ := hr
  simp only at h0 h2
  have e1 : sub? b 0 n = some (b.take n.toNat) := by rw [sub?, if_pos ⟨by omega, h0, h2⟩]; simp
  have e2 : sub? b n (b.length : Int) = some (b.drop n.toNat) := by
    rw [sub?, if_pos ⟨h0, h2, by omega⟩]
    rw [List.take_of_length_le (by simp)]
  simp only [Option.bind_eq_bind, Option.bind_some, out, textR, hq, e1, e2]

/-! ### So many of a kind -/
theorem app1?_ok {α : Type} {m : Nat} {xs : List α} {v : α} (h : (xs.length + 1) * m ≤ 140737488355328) : app1? m xs v = some (xs ++ [v]) := by rw [app1?, if_pos h]
theorem many_done {α : Type} (f : RS → α × RS) (n : Int) (s : RS) (h : ¬ (0 < n ∧ s.2 = none)) : many f n.toNat s = ([], s) := by
  obtain ⟨b, e⟩ := s
  cases e with
  | some e => exact many_err _
  | none => exact many_zero (by simp at h; omega)

theorem vals_loop : ∀ (k : Nat) (s : RS) (xs : List CVal), xs.length + k ≤ 262144 → l84_1 ((k : Int), s.1, er s.2, xs) = some ((many valR k s).2.1, er (many valR k s).2.2, xs ++ (many valR k s).1)
  | 0, s, xs, _ => by rw [l84_1]; simp [many]
  | k + 1, (b, e), xs, hk => by
    rw [l84_1]
    have hpos : (0 : Int) < ((k + 1 : Nat) : Int) := by omega
    have hi : i64 (((k + 1 : Nat) : Int) - 1) = (k : Int) := by rw [i64_small (by omega)]; omega
    cases e with
    | some e =>
      have h : (er (some e)).isNil = false := by cases e <;> rfl
      simp [h, many]
    | none =>
      obtain ⟨⟨a, s1⟩, q1⟩ : ∃ q, inR 0 2 (b, none) = q := ⟨_, rfl⟩
      obtain ⟨⟨c, s2⟩, q2⟩ : ∃ q, num s1 = q := ⟨_, rfl⟩
      have e1 := p82_eq 0 2 (b, none)
      have e2 := p117_eq s1
      rw [q1] at e1; rw [q2] at e2
      simp only [out] at e1 e2
      have h : (er none).isNil = true := rfl
      have e0 : er none = GErr.nil := rfl
      simp only [hpos, decide_true, if_true, h, e1, e2, Option.bind_eq_bind, Option.bind_some, app1?_ok (m := 17) (xs := xs) (v := ⟨a, c⟩) (by omega), hi]
      rw [vals_loop k s2 _ (by simp; omega)]
      simp [many, valR, q1, q2]
theorem alts_loop : ∀ (k : Nat) (s : RS) (xs : List CAlt), xs.length + k ≤ 262144 → l84_2 ((k : Int), s.1, er s.2, xs) = some ((many altR k s).2.1, er (many altR k s).2.2, xs ++ (many altR k s).1)
  | 0, s, xs, _ => by rw [l84_2]; simp [many]
  | k + 1, (b, e), xs, hk => by
    rw [l84_2]
    have hpos : (0 : Int) < ((k + 1 : Nat) : Int) := by omega
    have hi : i64 (((k + 1 : Nat) : Int) - 1) = (k : Int) := by rw [i64_small (by omega)]; omega
    cases e with
    | some e =>
      have h : (er (some e)).isNil = false := by cases e <;> rfl
      simp [h, many]
    | none =>
      obtain ⟨⟨a, s1⟩, q1⟩ : ∃ q, inR 1 3 (b, none) = q := ⟨_, rfl⟩
      obtain ⟨⟨c, s2⟩, q2⟩ : ∃ q, inR 0 262144 s1 = q := ⟨_, rfl⟩
      obtain ⟨⟨d, s3⟩, q3⟩ : ∃ q, inR 0 262144 s2 = q := ⟨_, rfl⟩
      obtain ⟨⟨g, s4⟩, q4⟩ : ∃ q, num s3 = q := ⟨_, rfl⟩
      have e1 := p82_eq 1 3 (b, none)
      have e2 := p82_eq 0 262144 s1
      have e3 := p82_eq 0 262144 s2
      have e4 := p117_eq s3
      rw [q1] at e1; rw [q2] at e2; rw [q3] at e3; rw [q4] at e4
      simp only [out] at e1 e2 e3 e4
      have h : (er none).isNil = true := rfl
      simp only [hpos, decide_true, if_true, h, e1, e2, e3, e4, Option.bind_eq_bind, Option.bind_some, app1?_ok (m := 33) (xs := xs) (v := ⟨a, c, d, g⟩) (by omega), hi]
      rw [alts_loop k s4 _ (by simp; omega)]
      simp [many, altR, q1, q2, q3, q4]
theorem p84_eq (s : RS) : p84 s.1 (er s.2) = some (out (insR s)) := by
  obtain ⟨⟨o1, s1⟩, q1⟩ : ∃ q, inR 0 12 s = q := ⟨_, rfl⟩
  obtain ⟨⟨o2, s2⟩, q2⟩ : ∃ q, inR 0 262144 s1 = q := ⟨_, rfl⟩
  obtain ⟨⟨o3, s3⟩, q3⟩ : ∃ q, inR 0 262144 s2 = q := ⟨_, rfl⟩
  obtain ⟨⟨o4, s4⟩, q4⟩ : ∃ q, inR 0 262144 s3 = q := ⟨_, rfl⟩
  obtain ⟨⟨o5, s5⟩, q5⟩ : ∃ q, num s4 = q := ⟨_, rfl⟩
  obtain ⟨⟨o6, s6⟩, q6⟩ : ∃ q, textR s5 = q := ⟨_, rfl⟩
  obtain ⟨⟨o7, s7⟩, q7⟩ : ∃ q, count 262144 s6 = q := ⟨_, rfl⟩
  obtain ⟨⟨vs, s8⟩, q8⟩ : ∃ q, many valR o7.toNat s7 = q := ⟨_, rfl⟩
  obtain ⟨⟨o9, s9⟩, q9⟩ : ∃ q, count 60 s8 = q := ⟨_, rfl⟩
  obtain ⟨⟨ws, s10⟩, q10⟩ : ∃ q, many altR o9.toNat s9 = q := ⟨_, rfl⟩
  have hI : insR s = (⟨o1, o2, o3, o4, o5, o6, vs, ws⟩, s10) := by simp only [insR, q1, q2, q3, q4, q5, q6, q7, q8, q9, q10]
  have c7 := count_range (most := 262144) (by decide) s6
  have c9 := count_range (most := 60) (by decide) s8
  rw [q7] at c7; rw [q9] at c9
  simp only at c7 c9
  have e1 := p82_eq 0 12 s
  have e2 := p82_eq 0 262144 s1
  have e3 := p82_eq 0 262144 s2
  have e4 := p82_eq 0 262144 s3
  have e5 := p117_eq s4
  have e6 := p83_eq s5
  have e7 := p81_eq 262144 s6
  have e8 := vals_loop o7.toNat s7 [] (by simp; omega)
  have e9 := p81_eq 60 s8
  have e10 := alts_loop o9.toNat s9 [] (by simp; omega)
  rw [q1] at e1; rw [q2] at e2; rw [q3] at e3; rw [q4] at e4; rw [q5] at e5; rw [q6] at e6; rw [q7] at e7; rw [q8] at e8; rw [q9] at e9; rw [q10] at e10
  rw [show (((o7.toNat : Nat)) : Int) = o7 by omega] at e8
  rw [show (((o9.toNat : Nat)) : Int) = o9 by omega] at e10
  simp only [out, List.nil_append] at e1 e2 e3 e4 e5 e6 e7 e8 e9 e10
  rw [hI]
  simp only [p84, e1, e2, e3, e4, e5, e6, e7, e8, e9, e10, Option.bind_eq_bind, Option.bind_some, out]

theorem ins_loop : ∀ (k : Nat) (s : RS) (xs : List CIns), xs.length + k ≤ 262144 → l42_3 ((k : Int), s.1, er s.2, xs) = some ((many insR k s).2.1, er (many insR k s).2.2, xs ++ (many insR k s).1)
  | 0, s, xs, _ => by rw [l42_3]; simp [many]
  | k + 1, (b, e), xs, hk => by
    rw [l42_3]
    have hpos : (0 : Int) < ((k + 1 : Nat) : Int) := by omega
    have hi : i64 (((k + 1 : Nat) : Int) - 1) = (k : Int) := by rw [i64_small (by omega)]; omega
    cases e with
    | some e =>
      have h : (er (some e)).isNil = false := by cases e <;> rfl
      simp [h, many]
    | none =>
      obtain ⟨⟨a, s1⟩, q1⟩ : ∃ q, insR (b, none) = q := ⟨_, rfl⟩
      have e1 := p84_eq (b, none)
      rw [q1] at e1
      simp only [out] at e1
      have h : (er none).isNil = true := rfl
      simp only [hpos, decide_true, if_true, h, e1, Option.bind_eq_bind, Option.bind_some, app1?_ok (m := 105) (xs := xs) (v := a) (by omega), hi]
      rw [ins_loop k s1 _ (by simp; omega)]
      simp [many, q1]
theorem funs_loop : ∀ (k : Nat) (s : RS) (xs : List CFun), xs.length + k ≤ 262144 → l42_2 ((k : Int), s.1, er s.2, xs) = some ((many funR k s).2.1, er (many funR k s).2.2, xs ++ (many funR k s).1)
  | 0, s, xs, _ => by rw [l42_2]; simp [many]
  | k + 1, (b, e), xs, hk => by
    rw [l42_2]
    have hpos : (0 : Int) < ((k + 1 : Nat) : Int) := by omega
    have hi : i64 (((k + 1 : Nat) : Int) - 1) = (k : Int) := by rw [i64_small (by omega)]; omega
    cases e with
    | some e =>
      have h : (er (some e)).isNil = false := by cases e <;> rfl
      simp [h, many]
    | none =>
      obtain ⟨⟨a, s1⟩, q1⟩ : ∃ q, inR 0 262144 (b, none) = q := ⟨_, rfl⟩
      obtain ⟨⟨c, s2⟩, q2⟩ : ∃ q, inR 0 524288 s1 = q := ⟨_, rfl⟩
      obtain ⟨⟨d, s3⟩, q3⟩ : ∃ q, inR 0 262144 s2 = q := ⟨_, rfl⟩
      have e1 := p82_eq 0 262144 (b, none)
      have e2 := p82_eq 0 524288 s1
      have e3 := p82_eq 0 262144 s2
      rw [q1] at e1; rw [q2] at e2; rw [q3] at e3
      simp only [out] at e1 e2 e3
      have h : (er none).isNil = true := rfl
      simp only [hpos, decide_true, if_true, h, e1, e2, e3, Option.bind_eq_bind, Option.bind_some, app1?_ok (m := 25) (xs := xs) (v := ⟨a, c, d⟩) (by omega), hi]
      rw [funs_loop k s3 _ (by simp; omega)]
      simp [many, funR, q1, q2, q3]
theorem tags_loop : ∀ (k : Nat) (s : RS) (xs : List CTag), xs.length + k ≤ 262144 → l42_1 ((k : Int), s.1, er s.2, xs) = some ((many tagR k s).2.1, er (many tagR k s).2.2, xs ++ (many tagR k s).1)
  | 0, s, xs, _ => by rw [l42_1]; simp [many]
  | k + 1, (b, e), xs, hk => by
    rw [l42_1]
    have hpos : (0 : Int) < ((k + 1 : Nat) : Int) := by omega
    have hi : i64 (((k + 1 : Nat) : Int) - 1) = (k : Int) := by rw [i64_small (by omega)]; omega
    cases e with
    | some e =>
      have h : (er (some e)).isNil = false := by cases e <;> rfl
      simp [h, many]
    | none =>
      obtain ⟨⟨a, s1⟩, q1⟩ : ∃ q, inR 1 6 (b, none) = q := ⟨_, rfl⟩
      obtain ⟨⟨c, s2⟩, q2⟩ : ∃ q, textR s1 = q := ⟨_, rfl⟩
      obtain ⟨⟨d, s3⟩, q3⟩ : ∃ q, inR 0 262144 s2 = q := ⟨_, rfl⟩
      obtain ⟨⟨g, s4⟩, q4⟩ : ∃ q, inR 0 60 s3 = q := ⟨_, rfl⟩
      have e1 := p82_eq 1 6 (b, none)
      have e2 := p83_eq s1
      have e3 := p82_eq 0 262144 s2
      have e4 := p82_eq 0 60 s3
      rw [q1] at e1; rw [q2] at e2; rw [q3] at e3; rw [q4] at e4
      simp only [out] at e1 e2 e3 e4
      have h : (er none).isNil = true := rfl
      simp only [hpos, decide_true, if_true, h, e1, e2, e3, e4, Option.bind_eq_bind, Option.bind_some, app1?_ok (m := 41) (xs := xs) (v := ⟨a, c, d, g⟩) (by omega), hi]
      rw [tags_loop k s4 _ (by simp; omega)]
      simp [many, tagR, q1, q2, q3, q4]
theorem p42_eq (s : RS) : p42 s.1 (er s.2) = some (some (allR s).1, (allR s).2.1, er (allR s).2.2) := by
  obtain ⟨⟨c1, s1⟩, q1⟩ : ∃ q, count 262144 s = q := ⟨_, rfl⟩
  obtain ⟨⟨ts, s2⟩, q2⟩ : ∃ q, many tagR c1.toNat s1 = q := ⟨_, rfl⟩
  obtain ⟨⟨c2, s3⟩, q3⟩ : ∃ q, count 262144 s2 = q := ⟨_, rfl⟩
  obtain ⟨⟨fs, s4⟩, q4⟩ : ∃ q, many funR c2.toNat s3 = q := ⟨_, rfl⟩
  obtain ⟨⟨mn, s5⟩, q5⟩ : ∃ q, inR 0 262144 s4 = q := ⟨_, rfl⟩
  obtain ⟨⟨c3, s6⟩, q6⟩ : ∃ q, count 262144 s5 = q := ⟨_, rfl⟩
  obtain ⟨⟨is, s7⟩, q7⟩ : ∃ q, many insR c3.toNat s6 = q := ⟨_, rfl⟩
  have hI : allR s = (⟨ts, fs, is, mn⟩, s7) := by simp only [allR, q1, q2, q3, q4, q5, q6, q7]
  have d1 := count_range (most := 262144) (by decide) s
  have d2 := count_range (most := 262144) (by decide) s2
  have d3 := count_range (most := 262144) (by decide) s5
  rw [q1] at d1; rw [q3] at d2; rw [q6] at d3
  simp only at d1 d2 d3
  have e1 := p81_eq 262144 s
  have e2 := tags_loop c1.toNat s1 [] (by simp; omega)
  have e3 := p81_eq 262144 s2
  have e4 := funs_loop c2.toNat s3 [] (by simp; omega)
  have e5 := p82_eq 0 262144 s4
  have e6 := p81_eq 262144 s5
  have e7 := ins_loop c3.toNat s6 [] (by simp; omega)
  rw [q1] at e1; rw [q2] at e2; rw [q3] at e3; rw [q4] at e4; rw [q5] at e5; rw [q6] at e6; rw [q7] at e7
  rw [show (((c1.toNat : Nat)) : Int) = c1 by omega] at e2
  rw [show (((c2.toNat : Nat)) : Int) = c2 by omega] at e4
  rw [show (((c3.toNat : Nat)) : Int) = c3 by omega] at e7
  simp only [out, List.nil_append] at e1 e2 e3 e4 e5 e6 e7
  rw [hI]
  simp only [p42, e1, e2, e3, e4, e5, e6, e7, Option.bind_eq_bind, Option.bind_some]
end Go.Gw
