/- ffg.May. -/
import Derived.Test.YtbfjoakaofgapaaRatio
namespace Go.Proofs.Ytbfjoakaofgapaa
set_option linter.unusedSimpArgs false
set_option linter.unusedVariables false
set_option linter.unusedSectionVars false
open Go Go.RowKit
set_option maxRecDepth 100000

def mayLp (c : Cnf) (x : Lnk) : Prop := 0 ≤ x.frm.1 ∧ x.frm.1 < c.W.length ∧ 0 ≤ x.src.ep.1 ∧ x.src.ep.1 < x.tgt.ep.1 ∧ x.tgt.ep.1 ≤ 1048576
instance (c : Cnf) (x : Lnk) : Decidable (mayLp c x) := by unfold mayLp; infer_instance
/-- ffg.May. -/
def mayL (c : Cnf) (l : List Blk) (x : Lnk) : Bool := mayC c && decide (mayLp c x) && under l x.src.root x.tgt.root
set_option maxHeartbeats 2000000 in
theorem ffgMay_any (c : Cnf) (v : Value) (l : List Blk) (vl : Value) (x : Lnk) (w : World) (hC : CnfAt w v c) (hS : Sl 5 encBlk w vl l) (hl : l.length ≤ 900000) :
    Calls Try.prog 31 #[v, vl, vLnk x] w fun e w' => e = .returned (.bool (mayL c l x)) ∧ Below w.heap.size w w' := by
  have HC := hide hC
  obtain ⟨s, rfl, hs⟩ := hC
  obtain ⟨A, cap, rfl, hcap, hmax, hA⟩ := hs
  have hlen : c.W.length ≤ 9223372036854775807 := by simp only [maxLen] at hmax; omega
  clear hA hmax
  go_enter Try.func31, Try.ntmps31
  go_wp2_with fail
  obtain ⟨W, hW⟩ : ∃ W, (w.alloc (.cells #[.slice A c.W.length cap, .int .u64 c.seed.1, .int .i64 c.epoch.1, .int .i64 c.num.1, .int .i64 c.den.1] 25)).alloc (.cells #[.int .i64 x.frm.1, .int .i64 x.src.ep.1, .int .u64 x.src.root.a.1, .int .u64 x.src.root.b.1, .int .i64 x.tgt.ep.1, .int .u64 x.tgt.root.a.1, .int .u64 x.tgt.root.b.1] 44) = W := ⟨_, rfl⟩
  have hbW : Below w.heap.size w W := by rw [← hW]; exact (below_alloc w _).alloc (by simp) _
  have hB1 : Blok W w.heap.size 25 #[.slice A c.W.length cap, .int .u64 c.seed.1, .int .i64 c.epoch.1, .int .i64 c.num.1, .int .i64 c.den.1] := by rw [← hW]; exact (Blok.new _ _ _).alloc _
  have hB2 : Blok W (w.heap.size + 1) 44 #[.int .i64 x.frm.1, .int .i64 x.src.ep.1, .int .u64 x.src.root.a.1, .int .u64 x.src.root.b.1, .int .i64 x.tgt.ep.1, .int .u64 x.tgt.root.a.1, .int .u64 x.tgt.root.b.1] := by
    rw [← hW]; simpa using Blok.new (w.alloc (.cells #[.slice A c.W.length cap, .int .u64 c.seed.1, .int .i64 c.epoch.1, .int .i64 c.num.1, .int .i64 c.den.1] 25)) 44 #[.int .i64 x.frm.1, .int .i64 x.src.ep.1, .int .u64 x.src.root.a.1, .int .u64 x.src.root.b.1, .int .i64 x.tgt.ep.1, .int .u64 x.tgt.root.a.1, .int .u64 x.tgt.root.b.1]
  rw [hW]
  clear hW
  refine (dutyMay_any c _ _ (HC.out.after hbW)).mono ?_
  rintro e w1 ⟨rfl, hb1⟩
  have hb := below_then hbW hbW.size hb1
  replace hB1 := hB1.after hb1
  replace hB2 := hB2.after hb1
  have hS1 := hide (hS.after hb)
  clear hb1 hbW HC hS
  cases hm : mayC c with
  | false =>
    have hr : mayL c l x = false := by unfold mayL; rw [hm]; rfl
    have HR := hide hr
    clear hm hr
    go_wp2
    go_ret
    exact ⟨by rw [HR.out]; rfl, hb⟩
  | true =>
    have HM := hide hm
    clear hm
    have a0 := hB1.cell 0
    have b0 := hB2.cell 0
    have b1 := hB2.cell 1
    have b2 := hB2.cell 2
    have b3 := hB2.cell 3
    have b4 := hB2.cell 4
    have b5 := hB2.cell 5
    have b6 := hB2.cell 6
    by_cases hp : mayLp c x
    · have hr : mayL c l x = under l x.src.root x.tgt.root := by unfold mayL; rw [HM.out, decide_eq_true hp]; simp
      have HR := hide hr
      obtain ⟨p0, p1, p2, p3, p4⟩ := hp
      clear hr
      go_wp2_with fail
      refine (under_any l _ x.src.root x.tgt.root _ hS1.out hl).mono ?_
      rintro e w2 ⟨rfl, hb2⟩
      go_wp2
      go_ret
      exact ⟨by rw [HR.out]; rfl, below_then hb hb.size hb2⟩
    · have hr : mayL c l x = false := by unfold mayL; rw [decide_eq_false hp]; simp
      have HR := hide hr
      have HP := hide hp
      clear hr hp
      go_wp2_with fail
      all_goals first | (go_ret; exact ⟨by rw [HR.out]; rfl, hb⟩) | (exact absurd (show mayLp c x by unfold mayLp; omega) HP.out)
end Go.Proofs.Ytbfjoakaofgapaa
