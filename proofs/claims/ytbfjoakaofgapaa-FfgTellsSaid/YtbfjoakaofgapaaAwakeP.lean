/- marigoldlaw11.awake: the example's answers, plain. -/
import Derived.Test.YtbfjoakaofgapaaFinal
namespace Go.Proofs.Ytbfjoakaofgapaa
set_option linter.unusedSimpArgs false
set_option linter.unusedVariables false
set_option linter.unusedSectionVars false
open Go Go.RowKit
set_option maxRecDepth 100000

def iA (n : Nat) (h : (Lit.int .i64 (n : Int)).wf = true := by decide) : I64 := ⟨n, h⟩
def cA : Cnf := ⟨[iA 1, iA 1, iA 1], ⟨0, wf0u⟩, iA 1, iA 0, iA 4⟩
def bA : Blk := ⟨iA 1, iA 0, ID.zero, ⟨0, wf0u⟩⟩
def xA : Chk := ⟨iA 1, nameB bA⟩
def lA0 : Lnk := ⟨iA 0, Chk.zero, xA⟩
def lA2 : Lnk := ⟨iA 2, Chk.zero, xA⟩
theorem okA : okC cA [bA] = true := by decide +kernel
theorem mayA0 : mayL cA [bA] lA0 = true := by decide +kernel
theorem mayA2 : mayL cA [bA] lA2 = true := by decide +kernel
theorem strongA : strongB cA [bA] [lA0, lA2] ⟨Chk.zero, xA⟩ = true := by decide +kernel
theorem weakA : strongB cA [bA] [lA0] ⟨Chk.zero, xA⟩ = false := by decide +kernel
theorem ltA : ltC Chk.zero xA = true := by decide +kernel
theorem strongA_iff (y : Way) : strongB cA [bA] [lA0, lA2] y = true ↔ y = ⟨Chk.zero, xA⟩ := by
  constructor
  · intro h
    have := strong_mem h
    simp only [List.map_cons, List.map_nil, List.mem_cons, List.not_mem_nil, or_false] at this
    rcases this with rfl | rfl <;> rfl
  · rintro rfl; exact strongA
theorem reachA (x : Chk) : Reach (strongP cA [bA] [lA0, lA2]) x ↔ x = Chk.zero ∨ x = xA := by
  constructor
  · intro h
    rcases reach_mem h with h | ⟨y, hy, rfl⟩
    · exact .inl h
    · right; rw [(strongA_iff y).1 hy]
  · rintro (rfl | rfl)
    · exact .zero
    · exact .step (y := ⟨Chk.zero, xA⟩) strongA .zero
theorem justA {js : List Chk} (h : JustIs cA [bA] [lA0, lA2] js) : js = [Chk.zero, xA] := by
  obtain ⟨h1, h2⟩ := h.2 okA
  refine strict_unique h1 (by simp [ltA]) fun x => ?_
  rw [h2 x, reachA]; simp
theorem justA_is : JustIs cA [bA] [lA0, lA2] [Chk.zero, xA] := ⟨fun h => absurd h (by rw [okA]; simp), fun _ => ⟨by simp [ltA], fun x => by rw [reachA]; simp⟩⟩
theorem finalA {fs : List Chk} (h : FinalIs cA [bA] [lA0, lA2] fs) : fs = [Chk.zero] := by
  obtain ⟨h1, h2⟩ := h.2 okA
  refine strict_unique h1 (by simp) fun x => ?_
  rw [h2 _ justA_is x]
  unfold FinalP
  simp only [List.mem_singleton]
  constructor
  · rintro (h | ⟨y, hy, rfl, _⟩)
    · exact h
    · rw [(strongA_iff y).1 hy]
  · exact .inl
end Go.Proofs.Ytbfjoakaofgapaa
