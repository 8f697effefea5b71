/- The walks of package mix, and of what it calls. -/
import Derived.Test.YtbfjoakaofgapaaMaps
import Derived.Deep.RegionHeld3
import Derived.StillTailTactics
namespace Go.Proofs.Ytbfjoakaofgapaa
set_option linter.unusedSimpArgs false
set_option linter.unusedVariables false
set_option linter.unusedSectionVars false
open Go Go.RowKit
set_option maxRecDepth 100000

theorem word_any (x : Int) (w : World) : Calls Try.prog 162 #[.int .u64 x] w fun e w' => e = .returned (.int .u64 (wordZ x)) ∧ w = w' := by
  go_enter Try.func162, Try.ntmps162
  go_wp2
  go_ret
  exact ⟨rfl, rfl⟩
theorem step_any (h x : Int) (w : World) : Calls Try.prog 134 #[.int .u64 h, .int .u64 x] w fun e w' => e = .returned (.int .u64 (stepZ h x)) ∧ w = w' := by
  go_enter Try.func134, Try.ntmps134
  go_wp2_with fail
  refine (word_any _ _).mono ?_
  rintro e w' ⟨rfl, rfl⟩
  go_wp2
  go_ret
  exact ⟨rfl, rfl⟩
theorem cmpU_any (x y : Int) (w : World) :
    Calls Try.prog 138 #[.int .u64 x, .int .u64 y] w fun e w' => e = .returned (.int .i64 (if x < y then -1 else if y < x then 1 else 0)) ∧ w = w' := by
  go_enter Try.func138, Try.ntmps138
  go_wp2
  all_goals go_ret
  all_goals exact ⟨rfl, rfl⟩

theorem u64_unsigned : IntKind.u64.signed = false := rfl
theorem grown_set2 {w : World} {g : Nat} (u v : Value) (i j : Nat) : w.grownBy ((w.setCell ⟨g, i, none⟩ u).setCell ⟨g, j, none⟩ v) (some g) :=
  ⟨rfl, rfl, rfl, by simp [World.setCell], fun k _ hk => by
    rw [Below.heap_setCell _ _ _ _ (fun e => hk (by rw [e])), Below.heap_setCell _ _ _ _ (fun e => hk (by rw [e]))]⟩
theorem grown_drew {w w' : World} {row : Option Nat} (h : w.grownBy w' row) : w.grownBy w'.drew row := ⟨h.os, h.tape, h.output, h.size, h.block⟩
set_option maxHeartbeats 1000000 in
theorem take_any (x : U64) (id : ID) (g : Nat) (w : World) (hB : Blok w g 28 #[.int .u64 id.a.1, .int .u64 id.b.1]) :
    Calls Try.prog 133 #[.int .u64 x.1, .pointer (some ⟨g, 0, none⟩)] w fun e w' => e = .returned (.tuple #[]) ∧ Blok w' g 28 #[.int .u64 (takeID id x).a.1, .int .u64 (takeID id x).b.1] ∧ w.grownBy w' (some g) := by
  have h0 : w.cell? ⟨g, 0, none⟩ = some (.int .u64 id.a.1) := hB.cell 0
  have h1 : w.cell? ⟨g, 1, none⟩ = some (.int .u64 id.b.1) := hB.cell 1
  have f0 := hB.frozen 0
  have f1 := hB.frozen 1
  have hs := u64_unsigned
  have hm := u64_max
  go_enter Try.func133, Try.ntmps133
  go_region_with ((go_at_call 134; refine (step_any _ _ _).mono ?_; rintro e w1 ⟨rfl, rfl⟩))
  all_goals
    go_end0
    exact ⟨rfl, (hB.set_ 0 _).set_ 1 _, grown_drew (grown_set2 _ _ _ _)⟩

end Go.Proofs.Ytbfjoakaofgapaa
