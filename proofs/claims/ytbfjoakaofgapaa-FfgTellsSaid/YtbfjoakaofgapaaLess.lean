/- slices.Compare at two words, mix.Less. -/
import Derived.Test.YtbfjoakaofgapaaMixb
namespace Go.Proofs.Ytbfjoakaofgapaa
set_option linter.unusedSimpArgs false
set_option linter.unusedVariables false
set_option linter.unusedSectionVars false
open Go Go.RowKit
set_option maxRecDepth 100000

def cmp2 (a0 a1 b0 b1 : Int) : Int := if a0 < b0 then -1 else if b0 < a0 then 1 else if a1 < b1 then -1 else if b1 < a1 then 1 else 0
theorem cmpU_lt {x y : Int} (h : x < y) (w : World) : Calls Try.prog 138 #[.int .u64 x, .int .u64 y] w fun e w' => e = .returned (.int .i64 (-1)) ∧ w = w' :=
  (cmpU_any x y w).mono fun e w' ⟨h1, h2⟩ => ⟨by rw [h1, if_pos h], h2⟩
theorem cmpU_gt {x y : Int} (h : y < x) (w : World) : Calls Try.prog 138 #[.int .u64 x, .int .u64 y] w fun e w' => e = .returned (.int .i64 1) ∧ w = w' :=
  (cmpU_any x y w).mono fun e w' ⟨h1, h2⟩ => ⟨by rw [h1, if_neg (by omega), if_pos h], h2⟩
theorem cmpU_eq (x : Int) (w : World) : Calls Try.prog 138 #[.int .u64 x, .int .u64 x] w fun e w' => e = .returned (.int .i64 0) ∧ w = w' :=
  (cmpU_any x x w).mono fun e w' ⟨h1, h2⟩ => ⟨by rw [h1, if_neg (by omega), if_neg (by omega)], h2⟩

theorem compare2_any (g h : Nat) (a0 a1 b0 b1 : Int) (w : World)
    (ha0 : w.cell? ⟨g, 0, none⟩ = some (.int .u64 a0)) (ha1 : w.cell? ⟨g, 1, none⟩ = some (.int .u64 a1))
    (hb0 : w.cell? ⟨h, 0, none⟩ = some (.int .u64 b0)) (hb1 : w.cell? ⟨h, 1, none⟩ = some (.int .u64 b1)) :
    Calls Try.prog 96 #[.slice (some ⟨g, 0, none⟩) 2 2, .slice (some ⟨h, 0, none⟩) 2 2] w fun e w' => e = .returned (.int .i64 (cmp2 a0 a1 b0 b1)) ∧ w = w' := by
  go_enter Try.func96, Try.ntmps96
  go_wp2
  go_loop [11] (fun i => ∃ k : Nat, k ≤ 2 ∧ i = .int .i64 k ∧ (1 ≤ k → a0 = b0) ∧ (2 ≤ k → a1 = b1)) (fun i => 2 - (intOf i).toNat)
  case atStart => exact ⟨0, by omega, rfl, by omega, by omega⟩
  case round =>
    obtain ⟨k, hk, rfl, h1, h2⟩ := hrel
    have hcase : k = 0 ∨ k = 1 ∨ k = 2 := by omega
    rcases hcase with rfl | rfl | rfl
    · clear h1 h2 hk
      rcases Int.lt_trichotomy a0 b0 with hlt | heq | hgt
      · go_wp2_with (go_at_call 138; refine (cmpU_lt hlt _).mono ?_; rintro e w' ⟨rfl, rfl⟩)
        go_ret
        exact ⟨by unfold cmp2; rw [if_pos hlt]; rfl, rfl⟩
      · subst heq
        go_wp2_with (go_at_call 138; refine (cmpU_eq _ _).mono ?_; rintro e w' ⟨rfl, rfl⟩)
        go_round
        case rel => exact ⟨1, by omega, by go_num, by simp, by omega⟩
        case measure => simp [intOf]
      · go_wp2_with (go_at_call 138; refine (cmpU_gt hgt _).mono ?_; rintro e w' ⟨rfl, rfl⟩)
        go_ret
        exact ⟨by unfold cmp2; rw [if_neg (by omega), if_pos hgt]; rfl, rfl⟩
    · have he := h1 (by omega)
      clear h1 h2 hk
      subst he
      rcases Int.lt_trichotomy a1 b1 with hlt | heq | hgt
      · go_wp2_with (go_at_call 138; refine (cmpU_lt hlt _).mono ?_; rintro e w' ⟨rfl, rfl⟩)
        go_ret
        exact ⟨by unfold cmp2; rw [if_neg (by omega), if_neg (by omega), if_pos hlt]; rfl, rfl⟩
      · subst heq
        go_wp2_with (go_at_call 138; refine (cmpU_eq _ _).mono ?_; rintro e w' ⟨rfl, rfl⟩)
        go_round
        case rel => exact ⟨2, by omega, by go_num, by simp, by simp⟩
        case measure => simp [intOf]
      · go_wp2_with (go_at_call 138; refine (cmpU_gt hgt _).mono ?_; rintro e w' ⟨rfl, rfl⟩)
        go_ret
        exact ⟨by unfold cmp2; rw [if_neg (by omega), if_neg (by omega), if_neg (by omega), if_pos hgt]; rfl, rfl⟩
    · have he := h1 (by omega)
      have he2 := h2 (by omega)
      clear h1 h2 hk
      subst he
      subst he2
      go_wp2
      go_ret
      exact ⟨by unfold cmp2; rw [if_neg (by omega), if_neg (by omega), if_neg (by omega), if_neg (by omega)]; rfl, rfl⟩

theorem less_any (x y : ID) (w : World) : Calls Try.prog 54 #[vID x, vID y] w fun e w' => e = .returned (.bool (lessID x y)) ∧ Below w.heap.size w w' := by
  go_enter Try.func54, Try.ntmps54
  go_wp2
  obtain ⟨W, hW⟩ : ∃ W, (w.alloc (.cells #[.int .u64 x.a.1, .int .u64 x.b.1] 28)).alloc (.cells #[.int .u64 y.a.1, .int .u64 y.b.1] 28) = W := ⟨_, rfl⟩
  have hbW : Below w.heap.size w W := by rw [← hW]; exact (below_alloc w _).alloc (by simp) _
  have hB1 : Blok W w.heap.size 28 #[.int .u64 x.a.1, .int .u64 x.b.1] := by rw [← hW]; exact (Blok.new _ _ _).alloc _
  have hB2 : Blok W (w.heap.size + 1) 28 #[.int .u64 y.a.1, .int .u64 y.b.1] := by rw [← hW]; simpa using Blok.new (w.alloc (.cells #[.int .u64 x.a.1, .int .u64 x.b.1] 28)) 28 #[.int .u64 y.a.1, .int .u64 y.b.1]
  rw [hW]
  clear hW
  have hlt : decide (cmp2 x.a.1 x.b.1 y.a.1 y.b.1 < 0) = lessID x y := by
    unfold cmp2 lessID
    rw [Bool.eq_iff_iff, decide_eq_true_iff, decide_eq_true_iff]
    split
    · constructor <;> intros <;> omega
    · split
      · constructor <;> intros <;> omega
      · split
        · constructor <;> intros <;> omega
        · split
          · constructor <;> intros <;> omega
          · constructor <;> intros <;> omega
  have H := hide hlt
  clear hlt
  go_quiet ((go_at_call 96; exact Calls.quiet_of_same ((compare2_any w.heap.size (w.heap.size + 1) x.a.1 x.b.1 y.a.1 y.b.1 (W.drewN _) (hB1.cell 0) (hB1.cell 1) (hB2.cell 0) (hB2.cell 1)).mono fun _ _ h => ⟨h.1, h.2.symm⟩)))
  go_wp2
  go_ret
  exact ⟨by rw [← H.out]; rfl, below_drewN hbW _⟩
end Go.Proofs.Ytbfjoakaofgapaa
