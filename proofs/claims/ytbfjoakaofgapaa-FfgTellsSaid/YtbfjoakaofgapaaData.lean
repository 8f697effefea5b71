/- The data of the statements as Lean has them, and the program's functions on them, plain: no Go, no memory. -/
import GoSem.Claim
import Derived.OpenShut
namespace Go.Proofs.Ytbfjoakaofgapaa
set_option linter.unusedSimpArgs false
set_option linter.unusedVariables false
set_option linter.unusedSectionVars false
open Go

abbrev I64 := { x : Int // (Lit.int .i64 x).wf = true }
abbrev U64 := { x : Int // (Lit.int .u64 x).wf = true }
theorem i64_min : IntKind.i64.min = -9223372036854775808 := by decide
theorem i64_max : IntKind.i64.max = 9223372036854775807 := by decide
theorem u64_min : IntKind.u64.min = 0 := by decide
theorem u64_max : IntKind.u64.max = 18446744073709551615 := by decide
theorem I64.lo (x : I64) : -9223372036854775808 ≤ x.1 := by have := x.2; simp only [Lit.wf, i64_min, i64_max, u64_min, u64_max, Bool.and_eq_true, decide_eq_true_eq] at this; omega
theorem I64.hi (x : I64) : x.1 ≤ 9223372036854775807 := by have := x.2; simp only [Lit.wf, i64_min, i64_max, u64_min, u64_max, Bool.and_eq_true, decide_eq_true_eq] at this; omega
theorem U64.lo (x : U64) : 0 ≤ x.1 := by have := x.2; simp only [Lit.wf, i64_min, i64_max, u64_min, u64_max, Bool.and_eq_true, decide_eq_true_eq] at this; omega
theorem U64.hi (x : U64) : x.1 < 18446744073709551616 := by have := x.2; simp only [Lit.wf, i64_min, i64_max, u64_min, u64_max, Bool.and_eq_true, decide_eq_true_eq] at this; omega
theorem wf_i64 {x : Int} (h0 : -9223372036854775808 ≤ x) (h1 : x ≤ 9223372036854775807) : (Lit.int .i64 x).wf = true := by
  simp only [Lit.wf, i64_min, i64_max, u64_min, u64_max, Bool.and_eq_true, decide_eq_true_eq]; omega
theorem wf_u64 {x : Int} (h0 : 0 ≤ x) (h1 : x < 18446744073709551616) : (Lit.int .u64 x).wf = true := by
  simp only [Lit.wf, i64_min, i64_max, u64_min, u64_max, Bool.and_eq_true, decide_eq_true_eq]; omega

structure ID where
  a : U64
  b : U64
  deriving DecidableEq
structure Blk where
  slot : I64
  frm : I64
  par : ID
  salt : U64
  deriving DecidableEq
structure Vot where
  frm : I64
  slot : I64
  head : ID
  deriving DecidableEq
structure Chk where
  ep : I64
  root : ID
  deriving DecidableEq
structure Lnk where
  frm : I64
  src : Chk
  tgt : Chk
  deriving DecidableEq

structure Cnf where
  W : List I64
  seed : U64
  epoch : I64
  num : I64
  den : I64
  deriving DecidableEq
theorem wf0u : (Lit.int .u64 0).wf = true := by decide
theorem wf0i : (Lit.int .i64 0).wf = true := by decide
def ID.zero : ID := ⟨⟨0, wf0u⟩, ⟨0, wf0u⟩⟩
def Chk.zero : Chk := ⟨⟨0, wf0i⟩, ID.zero⟩

def encI (x : I64) : List Value := [.int .i64 x.1]
def encU (x : U64) : List Value := [.int .u64 x.1]
def encID (x : ID) : List Value := [.int .u64 x.a.1, .int .u64 x.b.1]
def encBlk (x : Blk) : List Value := [.int .i64 x.slot.1, .int .i64 x.frm.1, .int .u64 x.par.a.1, .int .u64 x.par.b.1, .int .u64 x.salt.1]
def encVot (x : Vot) : List Value := [.int .i64 x.frm.1, .int .i64 x.slot.1, .int .u64 x.head.a.1, .int .u64 x.head.b.1]
def encChk (x : Chk) : List Value := [.int .i64 x.ep.1, .int .u64 x.root.a.1, .int .u64 x.root.b.1]
def encLnk (x : Lnk) : List Value := [.int .i64 x.frm.1, .int .i64 x.src.ep.1, .int .u64 x.src.root.a.1, .int .u64 x.src.root.b.1, .int .i64 x.tgt.ep.1, .int .u64 x.tgt.root.a.1, .int .u64 x.tgt.root.b.1]
/-- The values, written out: what the walk shows. -/
abbrev vI (x : I64) : Value := .int .i64 x.1
abbrev vU (x : U64) : Value := .int .u64 x.1
abbrev vID (x : ID) : Value := .agg #[.int .u64 x.a.1, .int .u64 x.b.1]
abbrev vBlk (x : Blk) : Value := .agg #[.int .i64 x.slot.1, .int .i64 x.frm.1, .int .u64 x.par.a.1, .int .u64 x.par.b.1, .int .u64 x.salt.1]
abbrev vVot (x : Vot) : Value := .agg #[.int .i64 x.frm.1, .int .i64 x.slot.1, .int .u64 x.head.a.1, .int .u64 x.head.b.1]
abbrev vChk (x : Chk) : Value := .agg #[.int .i64 x.ep.1, .int .u64 x.root.a.1, .int .u64 x.root.b.1]
abbrev vLnk (x : Lnk) : Value := .agg #[.int .i64 x.frm.1, .int .i64 x.src.ep.1, .int .u64 x.src.root.a.1, .int .u64 x.src.root.b.1, .int .i64 x.tgt.ep.1, .int .u64 x.tgt.root.a.1, .int .u64 x.tgt.root.b.1]

theorem ID.ext' {x y : ID} (h0 : x.a.1 = y.a.1) (h1 : x.b.1 = y.b.1) : x = y := by
  cases x; cases y; simp only [ID.mk.injEq]; exact ⟨Subtype.ext h0, Subtype.ext h1⟩


/-! ### mix -/
def wordZ1 (x : Int) : Int := IntKind.u64.wrap (bits .xor .u64 x (x / 1073741824) * 13787848793156543929)
def wordZ2 (x : Int) : Int := IntKind.u64.wrap (bits .xor .u64 x (x / 134217728) * 10723151780598845931)
def wordZ3 (x : Int) : Int := bits .xor .u64 x (x / 2147483648)
def wordZ (x : Int) : Int := wordZ3 (wordZ2 (wordZ1 x))
def stepZ (h x : Int) : Int := wordZ (IntKind.u64.wrap (bits .xor .u64 h x + 11400714819323198485))
def u64 (x : Int) : U64 := ⟨IntKind.u64.wrap x, wf_wrap _ _⟩
def stepU (h x : U64) : U64 := ⟨stepZ h.1 x.1, by unfold stepZ wordZ wordZ3; exact wf_bits _ _ _ _⟩
def notU (x : U64) : U64 := ⟨bits .xor .u64 18446744073709551615 x.1, wf_bits _ _ _ _⟩
def takeID (id : ID) (x : U64) : ID := ⟨stepU id.a x, stepU id.b (notU x)⟩
def mixInit : ID := ⟨⟨1, by decide⟩, ⟨2, by decide⟩⟩
def mixOf (l : List U64) : ID := takeID (l.foldl takeID mixInit) (u64 l.length)
def lessID (x y : ID) : Bool := decide (x.a.1 < y.a.1 ∨ (x.a.1 = y.a.1 ∧ x.b.1 < y.b.1))
def nameB (b : Blk) : ID := mixOf [u64 1, u64 b.slot.1, u64 b.frm.1, b.par.a, b.par.b, b.salt]

/-! ### duty -/
def mayC (c : Cnf) : Bool := decide (1 ≤ c.W.length ∧ c.W.length ≤ 12 ∧ (∀ x ∈ c.W, 0 ≤ x.1 ∧ x.1 ≤ 1099511627776) ∧ 0 < c.epoch.1 ∧ c.epoch.1 ≤ 8 ∧ 0 ≤ c.num.1 ∧ c.num.1 ≤ c.den.1 ∧ 0 < c.den.1 ∧ c.den.1 ≤ 1000)

end Go.Proofs.Ytbfjoakaofgapaa
