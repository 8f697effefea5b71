/- Keys of maps and equality at the program's own types. -/
import Derived.Test.YtbfjoakaofgapaaBase
namespace Go.Proofs.Ytbfjoakaofgapaa
set_option linter.unusedSimpArgs false
set_option linter.unusedVariables false
set_option linter.unusedSectionVars false
open Go Go.RowKit

theorem laidOut : laidOutB Try.prog = true := by kernel_rfl
theorem rowID : (28 : TypeId) < Try.prog.types.size := of_decide_eq_true (by kernel_rfl)
theorem rowChk : (42 : TypeId) < Try.prog.types.size := of_decide_eq_true (by kernel_rfl)
def AggT (k : TypeId) : Prop := (∃ n e, Try.prog.underlying k = some (.array n e)) ∨ (∃ fs, Try.prog.underlying k = some (.struct fs))
theorem wideID : AggT 28 := .inl ⟨_, _, Try.underlying28⟩
theorem wideChk : AggT 42 := .inr ⟨_, Try.underlying42⟩
theorem ktID : Try.prog.keyTypeAt 4 28 = true := by kernel_rfl
theorem ktChk : Try.prog.keyTypeAt 4 42 = true := by kernel_rfl
theorem law_of {k : TypeId} (hrow : k < Try.prog.types.size) (hk : Try.prog.keyTypeAt 4 k = true) (hw : AggT k) : WideMaps.KeyLaw Try.prog k :=
  deep_law_laid laidOut (m := 4) (by omega) hrow hk (by rcases hw with ⟨n, e, h⟩ | ⟨fs, h⟩ <;> rw [h])
theorem lawID : WideMaps.KeyLaw Try.prog 28 := law_of rowID ktID wideID
theorem lawChk : WideMaps.KeyLaw Try.prog 42 := law_of rowChk ktChk wideChk
theorem cellsU : Try.prog.cellsOf 23 = 1 := by kernel_rfl
theorem cellsI : Try.prog.cellsOf 3 = 1 := by kernel_rfl
theorem cellsID : Try.prog.cellsOf 28 = 2 := by kernel_rfl
theorem cellsChk : Try.prog.cellsOf 42 = 3 := by kernel_rfl
theorem tfuel : ∃ d, Try.prog.types.size + 1 = d + 6 := ⟨Try.prog.types.size - 5, by
  have h : (5 : Nat) < Try.prog.types.size := of_decide_eq_true (by kernel_rfl)
  omega⟩
theorem litsU (d : Nat) {n : Int} (h : (Lit.int .u64 n).wf = true) : Try.prog.keyLits (d + 1) 23 [.int .u64 n] = some [.int .u64 n] := by
  simp [Program.keyLits, Try.underlying23, h]
theorem litsI (d : Nat) {n : Int} (h : (Lit.int .i64 n).wf = true) : Try.prog.keyLits (d + 1) 3 [.int .i64 n] = some [.int .i64 n] := by
  simp [Program.keyLits, Try.underlying3, h]
theorem litsID (d : Nat) {a b : Int} (ha : (Lit.int .u64 a).wf = true) (hb : (Lit.int .u64 b).wf = true) :
    Try.prog.keyLits (d + 2) 28 [.int .u64 a, .int .u64 b] = some [.int .u64 a, .int .u64 b] := by
  unfold Program.keyLits
  simp [Try.underlying28, cellsID, cellsU, List.range_succ, litsU d ha, litsU d hb]
theorem litsChk (d : Nat) {e a b : Int} (he : (Lit.int .i64 e).wf = true) (ha : (Lit.int .u64 a).wf = true) (hb : (Lit.int .u64 b).wf = true) :
    Try.prog.keyLits (d + 3) 42 [.int .i64 e, .int .u64 a, .int .u64 b] = some [.int .i64 e, .int .u64 a, .int .u64 b] := by
  unfold Program.keyLits
  simp [Try.underlying42, cellsChk, cellsID, cellsI, litsI (d + 1) he, litsID d ha hb]
theorem key_of {k : TypeId} {cs : Array Value} {L : List Lit} (hw : AggT k)
    (hk : Try.prog.keyType k = true) (hf : (Value.agg cs).formed Try.prog k = true) (hL : ∀ d, Try.prog.keyLits (d + 6) k cs.toList = some L) : ∃ l, keyOf Try.prog k (.agg cs) = some l := by
  obtain ⟨d, hd⟩ := tfuel
  refine ⟨.string (keyBytes L), ?_⟩
  unfold keyOf
  rcases hw with ⟨n, e, h⟩ | ⟨fs, h⟩
  · rw [h]; simp [hk, hf, hd, hL, Value.cells]
  · rw [h]; simp [hk, hf, hd, hL, Value.cells]
theorem keyID (x : ID) : ∃ l, keyOf Try.prog 28 (vID x) = some l :=
  key_of wideID (by kernel_rfl) (by simp [Value.formed, Try.underlying28, cellsID]) (fun d => litsID (d + 4) x.a.2 x.b.2)
theorem keyChk (x : Chk) : ∃ l, keyOf Try.prog 42 (vChk x) = some l :=
  key_of wideChk (by kernel_rfl) (by simp [Value.formed, Try.underlying42, cellsChk]) (fun d => litsChk (d + 3) x.ep.2 x.root.a.2 x.root.b.2)
theorem vID_inj {x y : ID} (h : vID x = vID y) : x = y := by
  simp only [vID, Value.agg.injEq, Array.mk.injEq, List.cons.injEq, Value.int.injEq, true_and, and_true] at h
  exact ID.ext' h.1 h.2
theorem vChk_inj {x y : Chk} (h : vChk x = vChk y) : x = y := by
  simp only [vChk, Value.agg.injEq, Array.mk.injEq, List.cons.injEq, Value.int.injEq, true_and, and_true] at h
  cases x; cases y; simp only [Chk.mk.injEq]; exact ⟨Subtype.ext h.1, ID.ext' h.2.1 h.2.2⟩

/-! ### equality -/
theorem run_eql_of {k : TypeId} (K : WideMaps.KeyLaw Try.prog k) (hk : Try.prog.keyTypeAt 4 k = true) (hw : AggT k)
    {xs ys : Array Value} (hx : ∃ l, keyOf Try.prog k (.agg xs) = some l) (hy : ∃ l, keyOf Try.prog k (.agg ys) = some l) {p : Prop} [Decidable p] (hp : Value.agg xs = Value.agg ys ↔ p) (w : World) :
    (Op.equalIn 10000 k (.agg xs) (.agg ys)).run Try.prog w = .ok (decide p) w := by
  obtain ⟨lx, hx⟩ := hx
  obtain ⟨ly, hy⟩ := hy
  obtain ⟨r, hr, hiff⟩ := run_equal_deep w (m := 4) (by omega) hk (by rcases hw with ⟨n, e, h⟩ | ⟨fs, h⟩ <;> rw [h]) hx hy
  have hr' : (Op.equalIn 10000 k (.agg xs) (.agg ys)).run Try.prog w = .ok r w := hr
  rw [hr']
  have : r = decide p := by
    rw [Bool.eq_iff_iff, hiff, decide_eq_true_iff, ← hp]
    exact ⟨fun e => K.inj hx (e ▸ hy), fun e => by rw [e] at hx; rw [hx] at hy; exact Option.some.inj hy⟩
  rw [this]
theorem run_equalIn_ID (x y : ID) (w : World) : (Op.equalIn 10000 28 (.agg #[.int .u64 x.a.1, .int .u64 x.b.1]) (.agg #[.int .u64 y.a.1, .int .u64 y.b.1])).run Try.prog w = .ok (decide (x = y)) w :=
  run_eql_of lawID ktID wideID (keyID x) (keyID y) ⟨vID_inj, fun h => by rw [h]⟩ w
theorem run_equalIn_ID0 (x : ID) (w : World) : (Op.equalIn 10000 28 (.agg #[.int .u64 x.a.1, .int .u64 x.b.1]) (.agg #[.int .u64 0, .int .u64 0])).run Try.prog w = .ok (decide (x = ID.zero)) w :=
  run_equalIn_ID x ID.zero w
theorem run_equalIn_Chk (x y : Chk) (w : World) : (Op.equalIn 10000 42 (.agg #[.int .i64 x.ep.1, .int .u64 x.root.a.1, .int .u64 x.root.b.1]) (.agg #[.int .i64 y.ep.1, .int .u64 y.root.a.1, .int .u64 y.root.b.1])).run Try.prog w = .ok (decide (x = y)) w :=
  run_eql_of lawChk ktChk wideChk (keyChk x) (keyChk y) ⟨vChk_inj, fun h => by rw [h]⟩ w
theorem run_equalIn_Chk0 (x : Chk) (w : World) : (Op.equalIn 10000 42 (.agg #[.int .i64 x.ep.1, .int .u64 x.root.a.1, .int .u64 x.root.b.1]) (.agg #[.int .i64 0, .int .u64 0, .int .u64 0])).run Try.prog w = .ok (decide (x = Chk.zero)) w :=
  run_equalIn_Chk x Chk.zero w
theorem guardID : Try.prog.eqGuardType Try.prog.depth 28 = false := by kernel_rfl
theorem guardChk : Try.prog.eqGuardType Try.prog.depth 42 = false := by kernel_rfl

end Go.Proofs.Ytbfjoakaofgapaa
