/- marigoldlaw12.awake: the chapter's example. -/
import Derived.Test.YtbfjoakaofgapaaSlashB
namespace Go.Proofs.Ytbfjoakaofgapaa
set_option linter.unusedSimpArgs false
set_option linter.unusedVariables false
set_option linter.unusedSectionVars false
open Go Go.RowKit
set_option maxRecDepth 100000

def lS0 : Lnk := ⟨iA 1, Chk.zero, ⟨iA 3, ID.zero⟩⟩
def lS1 : Lnk := ⟨iA 1, ⟨iA 1, ID.zero⟩, ⟨iA 2, ID.zero⟩⟩
theorem pairS01 : pairB lS0 lS1 = true := by decide +kernel
theorem pairS10 : pairB lS1 lS0 = true := by decide +kernel
theorem pairS00 : pairB lS0 lS0 = false := by decide +kernel
theorem guiltS : guiltUpto [lS0, lS1] [lS0, lS1].length = [iA 1] := by decide +kernel
theorem guiltyS {g : List I64} (h1 : g.length ≤ (guiltUpto [lS0, lS1] [lS0, lS1].length).length) (h2 : GuiltIs [lS0, lS1] g) : g = [iA 1] := by
  have hm : iA 1 ∈ g := (h2 _).2 ⟨lS0, by simp, lS1, by simp, pairS01, rfl⟩
  rw [guiltS] at h1
  match g, h1, hm with
  | [], _, hm => cases hm
  | [a], _, hm => rw [List.mem_singleton.1 hm]
  | a :: b :: r, h1, _ => simp at h1
set_option maxHeartbeats 4000000 in
theorem awake12_any (w : World) : Calls Try.prog 48 #[] w fun e w' => e = .returned (.bool true) ∧ Below w.heap.size w w' := by
  go_enter Try.func48, Try.ntmps48
  go_wp2_with fail
  obtain ⟨W, hW⟩ : ∃ W, (w.alloc (.cells #[.int .i64 1, .int .i64 0, .int .u64 0, .int .u64 0, .int .i64 3, .int .u64 0, .int .u64 0] 44)).alloc (.cells #[.int .i64 1, .int .i64 1, .int .u64 0, .int .u64 0, .int .i64 2, .int .u64 0, .int .u64 0] 44) = W := ⟨_, rfl⟩
  have hbW : Below w.heap.size w W := by rw [← hW]; exact (below_alloc w _).alloc (by simp) _
  have h0 : Blok W w.heap.size 44 #[.int .i64 1, .int .i64 0, .int .u64 0, .int .u64 0, .int .i64 3, .int .u64 0, .int .u64 0] := by rw [← hW]; exact (Blok.new _ _ _).alloc _
  have h1 : Blok W (w.heap.size + 1) 44 #[.int .i64 1, .int .i64 1, .int .u64 0, .int .u64 0, .int .i64 2, .int .u64 0, .int .u64 0] := by rw [← hW]; simpa using Blok.new (w.alloc (.cells #[.int .i64 1, .int .i64 0, .int .u64 0, .int .u64 0, .int .i64 3, .int .u64 0, .int .u64 0] 44)) 44 #[.int .i64 1, .int .i64 1, .int .u64 0, .int .u64 0, .int .i64 2, .int .u64 0, .int .u64 0]
  have hz : W.heap.size = w.heap.size + 1 + 1 := by rw [← hW]; simp
  rw [hW, ← hz]
  clear hW
  have hbX : Hid (Below W.heap.size W (W.alloc (.cells #[.int .i64 1, .int .i64 0, .int .u64 0, .int .u64 0, .int .i64 3, .int .u64 0, .int .u64 0, .int .i64 1, .int .i64 1, .int .u64 0, .int .u64 0, .int .i64 2, .int .u64 0, .int .u64 0] 44))) := below_alloc _ _
  refine (guilty_any [lS0, lS1] _ _ (Sl.of_blok encLnk_len (Blok.new _ _ _) rfl (by simp [maxLen]) rfl) (by simp)).mono ?_
  rintro e w1 ⟨⟨u, g, rfl, hu, hgl, hg⟩, hb1⟩
  have hge := guiltyS hgl hg
  subst hge
  have hb01 := below_ext hbX.out hb1
  replace h0 := h0.after hb01
  replace h1 := h1.after hb01
  have hb := below_then hbW hbW.size hb01
  obtain ⟨A, cap, rfl, hcap, hmax, hA⟩ := hu
  obtain ⟨bu, ou, rfl, hbu, hcu⟩ := hA (by simp)
  have u0 : ∀ w', Below w1.heap.size w1 w' → w'.cell? ⟨bu, ou, none⟩ = some (.int .i64 1) := fun w' h => (h.cell (p := ⟨bu, _, none⟩) hbu).trans (by have := hcu 0 (iA 1) rfl 0 (.int .i64 1) rfl; simpa using this)
  obtain ⟨xb, hxb⟩ : ∃ xb, xb = w.heap.size + 1 := ⟨_, rfl⟩
  rw [← hxb] at h1 ⊢
  clear hxb hA hcu hmax hcap hgl hg hb1 hb01 hbW hz hbX
  have a0 := h0.cell 0
  have b0 := h1.cell 0
  have a1 := h0.cell 1
  have b1 := h1.cell 1
  have a2 := h0.cell 2
  have b2 := h1.cell 2
  have a3 := h0.cell 3
  have b3 := h1.cell 3
  have a4 := h0.cell 4
  have b4 := h1.cell 4
  have a5 := h0.cell 5
  have b5 := h1.cell 5
  have a6 := h0.cell 6
  have b6 := h1.cell 6
  go_wp2_with fail
  refine (pair_any lS0 lS1 _).mono ?_
  rw [pairS01]
  rintro e w2 ⟨rfl, hb2⟩
  have h02 := h0.after hb2
  have h12 := h1.after hb2
  have c0 := h02.cell 0
  have d0 := h12.cell 0
  have c1 := h02.cell 1
  have d1 := h12.cell 1
  have c2 := h02.cell 2
  have d2 := h12.cell 2
  have c3 := h02.cell 3
  have d3 := h12.cell 3
  have c4 := h02.cell 4
  have d4 := h12.cell 4
  have c5 := h02.cell 5
  have d5 := h12.cell 5
  have c6 := h02.cell 6
  have d6 := h12.cell 6
  clear a0 a1 a2 a3 a4 a5 a6 b0 b1 b2 b3 b4 b5 b6
  go_wp2_with fail
  refine (pair_any lS1 lS0 _).mono ?_
  rw [pairS10]
  rintro e w3 ⟨rfl, hb3⟩
  have h03 := h02.after hb3
  have a0 := h03.cell 0
  have a1 := h03.cell 1
  have a2 := h03.cell 2
  have a3 := h03.cell 3
  have a4 := h03.cell 4
  have a5 := h03.cell 5
  have a6 := h03.cell 6
  clear c0 c1 c2 c3 c4 c5 c6 d0 d1 d2 d3 d4 d5 d6
  go_wp2_with fail
  refine (pair_any lS0 lS0 _).mono ?_
  rw [pairS00]
  rintro e w4 ⟨rfl, hb4⟩
  have hb5 := below_ext (below_ext hb2 hb3) hb4
  have v0 := u0 _ hb5
  clear a0 a1 a2 a3 a4 a5 a6 u0
  go_wp2
  go_ret
  exact ⟨rfl, below_then hb hb.size hb5⟩
end Go.Proofs.Ytbfjoakaofgapaa
