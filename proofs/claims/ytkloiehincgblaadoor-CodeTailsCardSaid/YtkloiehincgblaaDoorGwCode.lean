/- Package code, told as plain functions: the reader of numbers, what is read, what is written. -/
import Derived.Test.YtkloiehincgblaaDoorGwEnc
namespace Go.Gw

inductive Er where
  | end_ | shape | range
  deriving DecidableEq

/-- What is left, and the first error. -/
abbrev RS := By × Option Er

def numStep (i : Nat) (x : Int) (c : UInt8) : Int := Go.bits .or .u64 x (IntKind.u64.wrap (IntKind.u64.wrap (Go.bits .and .u8 c.toNat 127) * 2 ^ min (7 * (i : Int)).toNat 64))
def numEnd (x : Int) : Int := Go.bits .xor .i64 (IntKind.i64.wrap (x.fdiv (2 ^ min (1 : Int).toNat 64))) (IntKind.i64.wrap (0 - IntKind.i64.wrap (Go.bits .and .u64 x 1)))

def numF : Nat → Int → By → Int × By × Option Er
  | _, _, [] => (0, [], some .end_)
  | i, x, c :: b => if (i = 9 ∧ 1 < c.toNat) ∨ (0 < i ∧ c.toNat = 0) then (0, b, some .shape)
    else if c.toNat < 128 then (numEnd (numStep i x c), b, none) else numF (i + 1) (numStep i x c) b

def num (s : RS) : Int × RS := match s.2 with
  | some e => (0, s.1, some e)
  | none => numF 0 0 s.1

def inR (lo hi : Int) (s : RS) : Int × RS := match num s with
  | (n, b, none) => if n < lo ∨ hi < n then (0, b, some .range) else (n, b, none)
  | (_, b, some e) => (0, b, some e)

def count (most : Int) (s : RS) : Int × RS := match inR 0 most s with
  | (n, b, e) => if (b.length : Int) < n then (0, b, some .end_) else (n, b, e)

def textR (s : RS) : ByteArray × RS := match count 65536 s with
  | (n, b, e) => (strOf (b.take n.toNat), b.drop n.toNat, e)

/-- So many of a kind, until the first error. -/
def many {α : Type} (f : RS → α × RS) : Nat → RS → List α × RS
  | 0, s => ([], s)
  | n + 1, s => match s.2 with
    | some _ => ([], s)
    | none => match f s with
      | (x, s') => match many f n s' with
        | (xs, s'') => (x :: xs, s'')

structure CVal where
  kind : Int
  n : Int
structure CAlt where
  take : Int
  tag : Int
  to : Int
  n : Int
structure CTag where
  kind : Int
  name : ByteArray
  fn : Int
  n : Int
structure CFun where
  params : Int
  regs : Int
  at_ : Int
structure CIns where
  op : Int
  to : Int
  tag : Int
  fn : Int
  n : Int
  prim : ByteArray
  vals : List CVal
  alts : List CAlt
structure CCode where
  tags : List CTag
  funs : List CFun
  ins : List CIns
  main : Int

def iA (n : Int) : AV := .sc (.int .i64 n)
def sA (s : ByteArray) : AV := .sc (.string s)
def CVal.A (v : CVal) : AV := .agg [iA v.kind, iA v.n]
def CAlt.A (a : CAlt) : AV := .agg [iA a.take, iA a.tag, iA a.to, iA a.n]
def CTag.A (t : CTag) : AV := .agg [iA t.kind, sA t.name, iA t.fn, iA t.n]
def CFun.A (f : CFun) : AV := .agg [iA f.params, iA f.regs, iA f.at_]
def CIns.A (x : CIns) : AV := .agg [iA x.op, iA x.to, iA x.tag, iA x.fn, iA x.n, sA x.prim, slA 2 CVal.A x.vals, slA 4 CAlt.A x.alts]
def CCode.A (c : CCode) : AV := .agg [slA 4 CTag.A c.tags, slA 3 CFun.A c.funs, slA 8 CIns.A c.ins, iA c.main]

def valR (s : RS) : CVal × RS := match inR 0 2 s with
  | (k, s1) => match num s1 with
    | (n, s2) => (⟨k, n⟩, s2)
def altR (s : RS) : CAlt × RS := match inR 1 3 s with
  | (a, s1) => match inR 0 262144 s1 with
    | (b, s2) => match inR 0 262144 s2 with
      | (c, s3) => match num s3 with
        | (n, s4) => (⟨a, b, c, n⟩, s4)
def insR (s : RS) : CIns × RS := match inR 0 12 s with
  | (o, s1) => match inR 0 262144 s1 with
    | (to, s2) => match inR 0 262144 s2 with
      | (t, s3) => match inR 0 262144 s3 with
        | (f, s4) => match num s4 with
          | (n, s5) => match textR s5 with
            | (p, s6) => match count 262144 s6 with
              | (k, s7) => match many valR k.toNat s7 with
                | (vs, s8) => match count 60 s8 with
                  | (m, s9) => match many altR m.toNat s9 with
                    | (as, s10) => (⟨o, to, t, f, n, p, vs, as⟩, s10)
def tagR (s : RS) : CTag × RS := match inR 1 6 s with
  | (k, s1) => match textR s1 with
    | (nm, s2) => match inR 0 262144 s2 with
      | (f, s3) => match inR 0 60 s3 with
        | (n, s4) => (⟨k, nm, f, n⟩, s4)
def funR (s : RS) : CFun × RS := match inR 0 262144 s with
  | (p, s1) => match inR 0 524288 s1 with
    | (r, s2) => match inR 0 262144 s2 with
      | (a, s3) => (⟨p, r, a⟩, s3)
def allR (s : RS) : CCode × RS := match count 262144 s with
  | (a, s1) => match many tagR a.toNat s1 with
    | (ts, s2) => match count 262144 s2 with
      | (b, s3) => match many funR b.toNat s3 with
        | (fs, s4) => match inR 0 262144 s4 with
          | (m, s5) => match count 262144 s5 with
            | (k, s6) => match many insR k.toNat s6 with
              | (is, s7) => (⟨ts, fs, is, m⟩, s7)

/-! ### As it lies in memory -/
/-- An error, as it is held. -/
def erA (te : TypeId) (ad : Er → Addr) : Option Er → AV
  | none => .sc .nilIface
  | some e => .sc (.iface te (.pointer (some (ad e))))
def rdO (rt : TypeId) (te : TypeId) (ad : Er → Addr) : RS → AObj
  | (b, e) => .cells rt 2 [bytesA b, erA te ad e]
theorem rdO_ne {σ : Store} {r k : Nat} {rt te : TypeId} {ad : Er → Addr} {s : RS} {x : AV} (hr : σ r = some (rdO rt te ad s)) (hk : σ k = some (.glob x)) : k ≠ r := by
  rintro rfl
  rw [hr] at hk
  obtain ⟨b, e⟩ := s
  cases hk

/-! ### What numbers come to -/
theorem numF_le : ∀ (b : By) (i : Nat) (x : Int), (numF i x b).2.1.length ≤ b.length
  | [], i, x => by simp [numF]
  | c :: b, i, x => by
    simp only [numF]
    split
    · simp
    · split
      · simp
      · have := numF_le b (i + 1) (numStep i x c); simp; omega
theorem num_le (s : RS) : (num s).2.1.length ≤ s.1.length := by
  unfold num
  split
  · simp
  · exact numF_le _ _ _
theorem inR_le (lo hi : Int) (s : RS) : (inR lo hi s).2.1.length ≤ s.1.length := by
  have := num_le s
  unfold inR
  split <;> rename_i h <;> rw [h] at this <;> (try split) <;> exact this
theorem inR_range {lo hi : Int} (h0 : lo ≤ 0 ∨ True) (s : RS) : (inR lo hi s).1 = 0 ∨ (lo ≤ (inR lo hi s).1 ∧ (inR lo hi s).1 ≤ hi) := by
  unfold inR
  split
  · split
    · exact .inl rfl
    · rename_i h; exact .inr ⟨by simp only; omega, by simp only; omega⟩
  · exact .inl rfl
theorem count_range {most : Int} (h0 : 0 ≤ most) (s : RS) : 0 ≤ (count most s).1 ∧ (count most s).1 ≤ most ∧ (count most s).1 ≤ ((count most s).2.1.length : Int) := by
  have h := inR_range (lo := 0) (hi := most) (.inr trivial) s
  unfold count
  generalize inR 0 most s = q at *
  obtain ⟨n, b, e⟩ := q
  simp only at h ⊢
  split
  · exact ⟨Int.le_refl _, h0, by simp⟩
  · simp only; omega
end Go.Gw
