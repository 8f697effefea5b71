/- 'xs[l:]', 'xs[:h]' in the midst of a drawn region. -/
import Derived.Test.YtbfjoakaofgapaaAppSl
namespace Go.Proofs.Ytbfjoakaofgapaa
set_option linter.unusedSimpArgs false
set_option linter.unusedVariables false
set_option linter.unusedSectionVars false
open Go Go.RowKit
variable {α : Type} {P : Program} {k : Nat} {enc : α → List Value} {e t : TypeId} {w : World} {xv : Value} {xs : List α}
theorem wp_slUpto {o : Oper} {a : Act} {K : Act → World → Prop} {Q : Exit → Act → World → Prop} (x hi : Operand) (hop : o.op = Op.slice t x none (some hi) none)
    (ht : P.underlying t = some (.slice (P.elem t))) (hz : ∀ W, (sizeOf (P.elem t)).run P W = .ok k W) (hx : a.eval x = xv) (l : Nat) (hlo : a.eval hi = .int .i64 l) (hsl : Sl k enc w xv xs) (hl : l ≤ xs.length)
    (hK : ∀ v2, Sl k enc w v2 (xs.take l) → K (a.put o.dst v2) w) : o.wp P a w K Q := by
  obtain ⟨A, cap, rfl, h1, h2, h3⟩ := id hsl
  have hr := run_slice_h (P := P) (w := w) t A xs.length cap ht .i64 (l : Int) (by omega) (by omega)
  rw [hz] at hr
  unfold Oper.wp
  simp only [Result.andThen, Int.toNat_natCast] at hr
  simp [execOp, hop, hx, hlo, run_sliceAt_slice _ t _ _ _ _ ht, hr, Result.andThen]
  exact hK _ (hsl.upto_ hl)
theorem wp_slFrom {o : Oper} {a : Act} {K : Act → World → Prop} {Q : Exit → Act → World → Prop} (x lo : Operand) (hop : o.op = Op.slice t x (some lo) none none)
    (ht : P.underlying t = some (.slice (P.elem t))) (hz : ∀ W, (sizeOf (P.elem t)).run P W = .ok k W) (hx : a.eval x = xv) (l : Nat) (hlo : a.eval lo = .int .i64 l) (hsl : Sl k enc w xv xs) (hl : l ≤ xs.length)
    (hK : ∀ v2, Sl k enc w v2 (xs.drop l) → K (a.put o.dst v2) w) : o.wp P a w K Q := by
  obtain ⟨A, cap, rfl, h1, h2, h3⟩ := id hsl
  have hr := run_slice_l (P := P) (w := w) t A xs.length cap ht .i64 (l : Int) (by omega) (by omega)
  rw [hz] at hr
  unfold Oper.wp
  simp only [Result.andThen, Int.toNat_natCast] at hr
  simp [execOp, hop, hx, hlo, run_sliceAt_slice _ t _ _ _ _ ht, hr, Result.andThen]
  exact hK _ (hsl.from_ hl)
theorem step_slUpto {ops : Array Oper} {o : Oper} {a : Act} {K : Act → World → Prop} {Q : Exit → Act → World → Prop} {E : Prop} (hw : Region.wanted o (yielded ops a.tmps) = true) (x hi : Operand) (hop : o.op = Op.slice t x none (some hi) none)
    (ht : P.underlying t = some (.slice (P.elem t))) (hz : ∀ W, (sizeOf (P.elem t)).run P W = .ok k W) (hx : a.eval x = xv) (l : Nat) (hlo : a.eval hi = .int .i64 l) (hsl : Sl k enc w xv xs) (hl : l ≤ xs.length)
    (hK : ∀ v2, Sl k enc w v2 (xs.take l) → K (a.put o.dst v2) w) : if Region.wanted o (yielded ops a.tmps) = true then Oper.wp P o a w K Q else E := by
  rw [if_pos hw]
  exact wp_slUpto x hi hop ht hz hx l hlo hsl hl hK
end Go.Proofs.Ytbfjoakaofgapaa
