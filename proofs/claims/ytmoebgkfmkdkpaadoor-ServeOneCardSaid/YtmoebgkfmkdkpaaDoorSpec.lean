/- What the layers' functions answer, in plain Lean: no program in sight. -/
import Derived.Test.YtmoebgkfmkdkpaaDoorBase
namespace Go.Proofs.YtmoebgkfmkdkpaaDoor

/-! ### records, files (layers 8, 9) -/
structure Rec where
  a : Int
  b : Int
  c : Int
  d : Int
deriving DecidableEq

def Rec.zero : Rec := ⟨0, 0, 0, 0⟩
def x8 (a b : Int) : Int := bits BinOp.xor IntKind.u8 a b
def hdr (perm n : Int) : Rec := ⟨n % 256, perm % 256, 165, x8 (x8 (n % 256) (perm % 256)) 165⟩

structure File where
  perm : Int
  recs : List Rec

def File.good (f : File) : Bool :=
  decide (0 ≤ f.perm) && decide (f.perm ≤ 7) && decide ((1 : Int) ≤ f.recs.length) && decide ((f.recs.length : Int) ≤ 256) && (f.recs.head? == some (hdr f.perm (f.recs.length - 1)))

def bitOf (op : Int) : Int := if op = 0 then 1 else if op = 1 then 2 else if op = 2 then 4 else 0

/-- Does a permission let an operation? -/
def lets (perm op : Int) : Bool := !(bits BinOp.and IntKind.i64 perm (bitOf op) == 0)

def may (f : File) (op rec : Int) : Int :=
  if f.good = false then 2 else if bitOf op = 0 then 1 else if rec < 0 ∨ (f.recs.length : Int) ≤ rec then 4 else
  if rec = 0 ∧ op = 0 then 0 else if rec = 0 then 5 else if lets f.perm op = false then 5 else 0

/-- A number in four bytes, one more. -/
def Rec.num (r : Rec) : Int := ((r.a * 256 + r.b) * 256 + r.c) * 256 + r.d
def Rec.of (n : Int) : Rec := ⟨n / 16777216 % 256, n / 65536 % 256, n / 256 % 256, n % 256⟩
def Rec.next (r : Rec) : Rec := .of (r.num + 1)
def Rec.wf (r : Rec) : Prop := (0 ≤ r.a ∧ r.a < 256) ∧ (0 ≤ r.b ∧ r.b < 256) ∧ (0 ≤ r.c ∧ r.c < 256) ∧ (0 ≤ r.d ∧ r.d < 256)

/-- The records behind an operation that is let. -/
def doRecs (xs : List Rec) (op : Int) (i : Nat) (v : Rec) : List Rec :=
  if op = 1 then xs.set i v else if op = 2 then xs.set i (xs.getD i .zero).next else xs

theorem rec_beq (x y : Rec) : (x == y) = (x.a == y.a && (x.b == y.b && (x.c == y.c && x.d == y.d))) := by
  cases x; cases y
  rw [Bool.eq_iff_iff]
  simp

end Go.Proofs.YtmoebgkfmkdkpaaDoor
