/- ffg.order. -/
import Derived.Test.YtbfjoakaofgapaaRange
import Derived.Test.YtbfjoakaofgapaaLess
import Derived.Sort.Grow
namespace Go.Proofs.Ytbfjoakaofgapaa
set_option linter.unusedSimpArgs false
set_option linter.unusedVariables false
set_option linter.unusedSectionVars false
open Go Go.RowKit Go.Sort
set_option maxRecDepth 100000

/-- The world is as it was, but for draws and blocks behind. -/
def Grown (w w' : World) : Prop := ∃ q os, w' = grow (w.drewN q) os
theorem grown_refl (w : World) : Grown w w := ⟨0, #[], by simp [grow, World.drewN]⟩
theorem grown_trans {a b c : World} (h : Grown a b) (k : Grown b c) : Grown a c := by
  obtain ⟨q, os, rfl⟩ := h
  obtain ⟨q', os', rfl⟩ := k
  exact ⟨q + q', os ++ os', by simp [grow, World.drewN, Nat.add_assoc, Array.append_assoc]⟩
theorem grown_alloc (w : World) (o : Obj) : Grown w (w.alloc o) := ⟨0, #[o], by rw [alloc_eq_grow]; rfl⟩
theorem grown_drewN (w : World) (n : Nat) : Grown w (w.drewN n) := ⟨n, #[], by unfold grow; rw [Array.append_empty]⟩
theorem Grown.below {w w' : World} (h : Grown w w') : Below w.heap.size w w' := by
  obtain ⟨q, os, rfl⟩ := h
  exact ⟨rfl, rfl, rfl, by simp [World.drewN], fun i hi => by show (w.heap ++ os)[i]? = _; rw [Array.getElem?_append_left hi]⟩

theorem less_grown (x y : ID) (w : World) : Calls Try.prog 54 #[vID x, vID y] w fun e w' => e = .returned (.bool (lessID x y)) ∧ Grown w w' := by
  go_enter Try.func54, Try.ntmps54
  go_wp2
  obtain ⟨W, hW⟩ : ∃ W, (w.alloc (.cells #[.int .u64 x.a.1, .int .u64 x.b.1] 28)).alloc (.cells #[.int .u64 y.a.1, .int .u64 y.b.1] 28) = W := ⟨_, rfl⟩
  have hbW : Grown w W := by rw [← hW]; exact grown_trans (grown_alloc _ _) (grown_alloc _ _)
  have hB1 : Blok W w.heap.size 28 #[.int .u64 x.a.1, .int .u64 x.b.1] := by rw [← hW]; exact (Blok.new _ _ _).alloc _
  have hB2 : Blok W (w.heap.size + 1) 28 #[.int .u64 y.a.1, .int .u64 y.b.1] := by rw [← hW]; simpa using Blok.new (w.alloc (.cells #[.int .u64 x.a.1, .int .u64 x.b.1] 28)) 28 #[.int .u64 y.a.1, .int .u64 y.b.1]
  rw [hW]
  clear hW
  have hlt : decide (cmp2 x.a.1 x.b.1 y.a.1 y.b.1 < 0) = lessID x y := by
    unfold cmp2 lessID
    rw [Bool.eq_iff_iff, decide_eq_true_iff, decide_eq_true_iff]
    split
    · constructor <;> intros <;> omega
    · split
      · constructor <;> intros <;> omega
      · split
        · constructor <;> intros <;> omega
        · split
          · constructor <;> intros <;> omega
          · constructor <;> intros <;> omega
  have H := hide hlt
  clear hlt
  go_quiet ((go_at_call 96; exact Calls.quiet_of_same ((compare2_any w.heap.size (w.heap.size + 1) x.a.1 x.b.1 y.a.1 y.b.1 (W.drewN _) (hB1.cell 0) (hB1.cell 1) (hB2.cell 0) (hB2.cell 1)).mono fun _ _ h => ⟨h.1, h.2.symm⟩)))
  go_wp2
  go_ret
  exact ⟨by rw [← H.out]; rfl, grown_trans hbW (grown_drewN _ _)⟩

theorem nanI (x : Int) (w : World) : Calls Try.prog 140 #[.int .i64 x] w fun e w' => e = .returned (.bool false) ∧ w = w' := by
  go_enter Try.func140, Try.ntmps140
  go_wp2
  go_ret
  exact ⟨rfl, rfl⟩
theorem cmpI_any (x y : Int) (w : World) : Calls Try.prog 102 #[.int .i64 x, .int .i64 y] w fun e w' => e = .returned (.int .i64 (if x < y then -1 else if y < x then 1 else 0)) ∧ w = w' := by
  go_enter Try.func102, Try.ntmps102
  go_wp2_with (go_at_call 140; refine (nanI _ _).mono ?_; rintro e w' ⟨rfl, rfl⟩)
  all_goals (go_ret; exact ⟨rfl, rfl⟩)
/-- ffg.order. -/
def ordZ (x y : Chk) : Int := if x.ep.1 ≠ y.ep.1 then (if x.ep.1 < y.ep.1 then -1 else if y.ep.1 < x.ep.1 then 1 else 0) else if x = y then 0 else if lessID x.root y.root then -1 else 1
set_option maxHeartbeats 2000000 in
theorem order_grown (x y : Chk) (w : World) : Calls Try.prog 114 #[vChk x, vChk y] w fun e w' => e = .returned (.int .i64 (ordZ x y)) ∧ Grown w w' := by
  have hg := guardChk
  have hWn : Grown w ((w.alloc (.cells #[.int .i64 x.ep.1, .int .u64 x.root.a.1, .int .u64 x.root.b.1] 42)).alloc (.cells #[.int .i64 y.ep.1, .int .u64 y.root.a.1, .int .u64 y.root.b.1] 42)) := grown_trans (grown_alloc _ _) (grown_alloc _ _)
  by_cases he : x.ep.1 = y.ep.1
  · by_cases hxy : x = y
    · have hz : ordZ x y = 0 := by unfold ordZ; rw [if_neg (by simp [he]), if_pos hxy]
      have HZ := hide hz
      have hq : ∀ W', (Op.equalIn 10000 42 (.agg #[.int .i64 x.ep.1, .int .u64 x.root.a.1, .int .u64 x.root.b.1]) (.agg #[.int .i64 y.ep.1, .int .u64 y.root.a.1, .int .u64 y.root.b.1])).run Try.prog W' = .ok true W' := fun W' => by rw [run_equalIn_Chk]; simp [hxy]
      have ht : (!(x.ep.1 == y.ep.1)) = false := by simp [he]
      have ht2 : (x.ep.1 != y.ep.1) = false := by simp [he]
      clear hz he hxy
      go_enter Try.func114, Try.ntmps114
      go_wp2_with fail
      all_goals first | (go_ret; exact ⟨by rw [HZ.out]; rfl, hWn⟩) | skip
    · have hz : ordZ x y = if lessID x.root y.root then -1 else 1 := by unfold ordZ; rw [if_neg (by simp [he]), if_neg hxy]
      have HZ := hide hz
      have hq : ∀ W', (Op.equalIn 10000 42 (.agg #[.int .i64 x.ep.1, .int .u64 x.root.a.1, .int .u64 x.root.b.1]) (.agg #[.int .i64 y.ep.1, .int .u64 y.root.a.1, .int .u64 y.root.b.1])).run Try.prog W' = .ok false W' := fun W' => by rw [run_equalIn_Chk]; simp [hxy]
      have ht2 : (x.ep.1 != y.ep.1) = false := by simp [he]
      clear hz he hxy
      go_enter Try.func114, Try.ntmps114
      go_wp2_with fail
      refine (less_grown x.root y.root _).mono ?_
      rintro e w1 ⟨rfl, hg1⟩
      have hgz := grown_trans hWn hg1
      clear hWn hg1 hq
      cases hl : lessID x.root y.root with
      | true =>
        have hz2 : ordZ x y = -1 := by rw [HZ.out, hl]; rfl
        have HZ2 := hide hz2
        clear hl hz2 HZ
        go_wp2
        go_ret
        exact ⟨by rw [HZ2.out]; rfl, hgz⟩
      | false =>
        have hz2 : ordZ x y = 1 := by rw [HZ.out, hl]; rfl
        have HZ2 := hide hz2
        clear hl hz2 HZ
        go_wp2
        go_ret
        exact ⟨by rw [HZ2.out]; rfl, hgz⟩
  · have hz : ordZ x y = if x.ep.1 < y.ep.1 then -1 else if y.ep.1 < x.ep.1 then 1 else 0 := by unfold ordZ; rw [if_pos he]
    have HZ := hide hz
    have ht2 : (x.ep.1 != y.ep.1) = true := by simp [he]
    clear hz
    go_enter Try.func114, Try.ntmps114
    go_wp2_with fail
    refine (cmpI_any x.ep.1 y.ep.1 _).mono ?_
    rintro e w1 ⟨rfl, rfl⟩
    rw [← HZ.out]
    go_wp2
    go_ret
    exact ⟨rfl, hWn⟩
end Go.Proofs.Ytbfjoakaofgapaa
