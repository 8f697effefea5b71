/- marigoldlaw11.awake, Few. -/
import Derived.Test.YtbfjoakaofgapaaAwakeP
namespace Go.Proofs.Ytbfjoakaofgapaa
set_option linter.unusedSimpArgs false
set_option linter.unusedVariables false
set_option linter.unusedSectionVars false
open Go Go.RowKit
set_option maxRecDepth 100000

theorem Sl.drew1 {α : Type} {k : Nat} {enc : α → List Value} {w : World} {v : Value} {xs : List α} (h : Sl k enc w v xs) : Sl k enc w.drew v xs := h
set_option maxHeartbeats 4000000 in
theorem awake_any (w : World) : Calls Try.prog 22 #[] w fun e w' => e = .returned (.bool true) ∧ Below w.heap.size w w' := by
  go_enter Try.func22, Try.ntmps22
  go_wp2_with fail
  obtain ⟨W, hW⟩ : ∃ W, ((w.alloc (.cells #[.int .i64 1, .int .i64 1, .int .i64 1] 3)).alloc (.cells #[.slice (some ⟨w.heap.size, 0, none⟩) 3 3, .int .u64 0, .int .i64 1, .int .i64 0, .int .i64 4] 25)).alloc (.cells #[.int .i64 1, .int .i64 0, .int .u64 0, .int .u64 0, .int .u64 0] 67) = W := ⟨_, rfl⟩
  have hbW : Below w.heap.size w W := by rw [← hW]; exact ((below_alloc w _).alloc (by simp) _).alloc (by simp; omega) _
  have hI : Blok W w.heap.size 3 #[.int .i64 1, .int .i64 1, .int .i64 1] := by rw [← hW]; exact ((Blok.new _ _ _).alloc _).alloc _
  have hC : Blok W (w.heap.size + 1) 25 #[.slice (some ⟨w.heap.size, 0, none⟩) 3 3, .int .u64 0, .int .i64 1, .int .i64 0, .int .i64 4] := by
    rw [← hW]; simpa using (Blok.new (w.alloc (.cells #[.int .i64 1, .int .i64 1, .int .i64 1] 3)) 25 #[.slice (some ⟨w.heap.size, 0, none⟩) 3 3, .int .u64 0, .int .i64 1, .int .i64 0, .int .i64 4]).alloc (.cells #[.int .i64 1, .int .i64 0, .int .u64 0, .int .u64 0, .int .u64 0] 67)
  have hK : Blok W (w.heap.size + 1 + 1) 67 #[.int .i64 1, .int .i64 0, .int .u64 0, .int .u64 0, .int .u64 0] := by
    rw [← hW]; simpa using Blok.new ((w.alloc (.cells #[.int .i64 1, .int .i64 1, .int .i64 1] 3)).alloc (.cells #[.slice (some ⟨w.heap.size, 0, none⟩) 3 3, .int .u64 0, .int .i64 1, .int .i64 0, .int .i64 4] 25)) 67 #[.int .i64 1, .int .i64 0, .int .u64 0, .int .u64 0, .int .u64 0]
  rw [hW]
  clear hW
  refine (name_any bA _).mono ?_
  rintro e w1 ⟨rfl, hb1⟩
  obtain ⟨nx, hnx⟩ : ∃ nx, nx = nameB bA := ⟨_, rfl⟩
  rw [← hnx]
  have hb := below_then hbW hbW.size hb1
  replace hI := hI.after hb1
  replace hC := hC.after hb1
  replace hK := hK.after hb1
  have HNX := hide hnx
  clear hb1 hbW hnx
  obtain ⟨kb, hkb⟩ : ∃ kb, kb = w.heap.size + 1 + 1 := ⟨_, rfl⟩
  rw [← hkb] at hK ⊢
  obtain ⟨cb, hcb⟩ : ∃ cb, cb = w.heap.size + 1 := ⟨_, rfl⟩
  rw [← hcb] at hC ⊢
  have hz : kb < w1.heap.size := hK.lt
  have hz1 : cb < w1.heap.size := hC.lt
  clear hkb hcb
  have c0 := hC.cell 0
  have c1 := hC.cell 1
  have c2 := hC.cell 2
  have c3 := hC.cell 3
  have c4 := hC.cell 4
  have k0 := hK.cell 0
  have k1 := hK.cell 1
  have k2 := hK.cell 2
  have k3 := hK.cell 3
  have k4 := hK.cell 4
  go_wp2_with fail
  clear c0 c1 c2 c3 c4 k0 k1 k2 k3 k4
  obtain ⟨W2, hW2⟩ : ∃ W2, (w1.alloc (.cells #[.int .i64 1, .int .u64 nx.a.1, .int .u64 nx.b.1] 42)).alloc (.cells #[.int .i64 0, .int .i64 0, .int .u64 0, .int .u64 0, .int .i64 1, .int .u64 nx.a.1, .int .u64 nx.b.1, .int .i64 2, .int .i64 0, .int .u64 0, .int .u64 0, .int .i64 1, .int .u64 nx.a.1, .int .u64 nx.b.1] 44) = W2 := ⟨_, rfl⟩
  have hb12 : Below w1.heap.size w1 W2 := by rw [← hW2]; exact (below_alloc w1 _).alloc (by simp) _
  have hX : Blok W2 w1.heap.size 42 #[.int .i64 1, .int .u64 nx.a.1, .int .u64 nx.b.1] := by rw [← hW2]; exact (Blok.new _ _ _).alloc _
  have hV : Blok W2 (w1.heap.size + 1) 44 #[.int .i64 0, .int .i64 0, .int .u64 0, .int .u64 0, .int .i64 1, .int .u64 nx.a.1, .int .u64 nx.b.1, .int .i64 2, .int .i64 0, .int .u64 0, .int .u64 0, .int .i64 1, .int .u64 nx.a.1, .int .u64 nx.b.1] := by
    rw [← hW2]; simpa using Blok.new (w1.alloc (.cells #[.int .i64 1, .int .u64 nx.a.1, .int .u64 nx.b.1] 42)) 44 #[.int .i64 0, .int .i64 0, .int .u64 0, .int .u64 0, .int .i64 1, .int .u64 nx.a.1, .int .u64 nx.b.1, .int .i64 2, .int .i64 0, .int .u64 0, .int .u64 0, .int .i64 1, .int .u64 nx.a.1, .int .u64 nx.b.1]
  have hzz : W2.heap.size = w1.heap.size + 1 + 1 := by rw [← hW2]; simp
  rw [hW2, ← hzz]
  clear hW2
  have hb2 := below_then hb hb.size hb12
  replace hI := hI.after hb12
  replace hC := hC.after hb12
  replace hK := hK.after hb12
  have hL : Hid (Sl 7 encLnk W2 (.slice (some ⟨w1.heap.size + 1, 0, none⟩) 2 2) [lA0, lA2]) := Sl.of_blok encLnk_len hV (by rw [HNX.out]; rfl) (by simp [maxLen]) rfl
  have hCn : Hid (CnfAt W2 (.agg #[.slice (some ⟨w.heap.size, 0, none⟩) 3 3, .int .u64 0, .int .i64 1, .int .i64 0, .int .i64 4]) cA) := ⟨_, rfl, Sl.of_blok encI_len hI rfl (by show 3 ≤ maxLen; simp [maxLen]) rfl⟩
  clear hb12 hb hI
  have hb3 : Hid (Below W2.heap.size W2 (W2.alloc (.cells #[.int .i64 1, .int .i64 0, .int .u64 0, .int .u64 0, .int .u64 0] 67))) := below_alloc _ _
  have hLb : Hid (Sl 5 encBlk (W2.alloc (.cells #[.int .i64 1, .int .i64 0, .int .u64 0, .int .u64 0, .int .u64 0] 67)) (.slice (some ⟨W2.heap.size, 0, none⟩) 1 1) [bA]) := Sl.of_blok encBlk_len (Blok.new _ _ _) rfl (by simp [maxLen]) rfl
  refine (just_any2 cA _ [bA] _ [lA0, lA2] _ _ (hCn.out.after hb3.out) hLb.out (by simp) (hL.out.after hb3.out) (by simp)).mono ?_
  rintro e w5 ⟨⟨u, js, rfl, hu, hj⟩, hb5⟩
  have hjs := justA hj
  subst hjs
  have hb25 := below_ext hb3.out hb5
  have hX5 := hX.after hb25
  have hC5 := hC.after hb25
  have hK5 := hK.after hb25
  have hL5 := hide (hL.out.after hb25)
  have hCn5 := hide (hCn.out.after hb25)
  have hb05 := below_then hb2 hb2.size hb25
  have hV5 := hV.after hb25
  clear hb5 hb25 hb2 hL hCn hLb hb3 hj hX hC hK hV
  obtain ⟨A, cap, rfl, hcap, hmax, hA⟩ := hu
  obtain ⟨bu, ou, rfl, hbu, hcu⟩ := hA (by simp)
  have u0 : ∀ w', Below w5.heap.size w5 w' → w'.cell? ⟨bu, ou + 3, none⟩ = some (.int .i64 1) := fun w' h => (h.cell (p := ⟨bu, _, none⟩) hbu).trans (hcu 1 xA rfl 0 _ rfl)
  have u1 : ∀ w', Below w5.heap.size w5 w' → w'.cell? ⟨bu, ou + 3 + 1, none⟩ = some (.int .u64 nx.a.1) := fun w' h => by rw [HNX.out]; exact (h.cell (p := ⟨bu, _, none⟩) hbu).trans (hcu 1 xA rfl 1 _ rfl)
  have u2 : ∀ w', Below w5.heap.size w5 w' → w'.cell? ⟨bu, ou + 3 + 2, none⟩ = some (.int .u64 nx.b.1) := fun w' h => by rw [HNX.out]; exact (h.cell (p := ⟨bu, _, none⟩) hbu).trans (hcu 1 xA rfl 2 _ rfl)
  have x0 := hX5.ext 0 rfl
  have x1 := hX5.ext 1 rfl
  have x2 := hX5.ext 2 rfl
  have c0 := hC5.ext 0 rfl
  have c1 := hC5.ext 1 rfl
  have c2 := hC5.ext 2 rfl
  have c3 := hC5.ext 3 rfl
  have c4 := hC5.ext 4 rfl
  have k0 := hK5.ext 0 rfl
  have k1 := hK5.ext 1 rfl
  have k2 := hK5.ext 2 rfl
  have k3 := hK5.ext 3 rfl
  have k4 := hK5.ext 4 rfl
  have v0 := hV5.ext 0 rfl
  have v1 := hV5.ext 1 rfl
  have v2 := hV5.ext 2 rfl
  have v3 := hV5.ext 3 rfl
  have v4 := hV5.ext 4 rfl
  have v5 := hV5.ext 5 rfl
  have v6 := hV5.ext 6 rfl
  have hg := guardChk
  have hq : ∀ W', (Op.equalIn 10000 42 (.agg #[.int .i64 1, .int .u64 nx.a.1, .int .u64 nx.b.1]) (.agg #[.int .i64 1, .int .u64 nx.a.1, .int .u64 nx.b.1])).run Try.prog W' = .ok true W' := fun W' => by
    have := run_equalIn_Chk ⟨iA 1, nx⟩ ⟨iA 1, nx⟩ W'
    rw [decide_eq_true rfl] at this
    exact this
  have hL1 : Hid (Sl 7 encLnk w5 (.slice (some ⟨w1.heap.size + 1, 0, none⟩) 1 2) [lA0]) := by
    obtain ⟨A9, cap9, he, _, _, h9⟩ := hL5.out
    obtain ⟨b9, o9, hA9, hb9, hc9⟩ := h9 (by simp)
    subst hA9
    cases he
    exact ⟨_, 2, rfl, by simp, by simp [maxLen], fun _ => ⟨_, _, rfl, hb9, fun j x hx i u hu => hc9 j x (by
      match j, hx with
      | 0, hx => exact hx) i u hu⟩⟩
  have hmy : Hid (mayL cA [bA] ⟨iA 0, Chk.zero, ⟨iA 1, nx⟩⟩ = true) := by unfold Hid; rw [HNX.out]; exact mayA0
  have hwk : Hid (strongB cA [bA] [lA0] ⟨Chk.zero, ⟨iA 1, nx⟩⟩ = false) := by unfold Hid; rw [HNX.out]; exact weakA
  clear hA hcu hmax hX5 hC5 hK5 hV5 hcap hzz hz hz1
  go_wp2
  go_region_held3 (fun w' => Below w5.heap.size w5 w') (first | exact below_drew w5 | exact below_ext (below_drew w5) (by assumption) | exact (below_alloc _ _).drew | exact below_ext (by assumption) (below_alloc _ _) | exact below_ext (by assumption) (below_alloc _ _).drew | exact below_ext (by assumption) (by assumption) | exact below_ext (below_alloc _ _).drew (by assumption) | exact below_ext (below_ext (by assumption) (below_alloc _ _)) (by assumption))
    (first | (go_at_call 29; refine (final_any cA _ [bA] _ [lA0, lA2] _ _ (hCn5.out.after (by first | assumption | exact (below_alloc _ _).drew | exact below_ext (by assumption) (below_alloc _ _) | exact below_ext (by assumption) (below_alloc _ _).drew)) (by first | exact Sl.of_blok encBlk_len (Blok.new _ _ _) rfl (by simp [maxLen]) rfl | exact Sl.drew1 (Sl.of_blok encBlk_len (Blok.new _ _ _) rfl (by simp [maxLen]) rfl)) (by simp) (hL5.out.after (by first | assumption | exact (below_alloc _ _).drew | exact below_ext (by assumption) (below_alloc _ _) | exact below_ext (by assumption) (below_alloc _ _).drew)) (by simp)).mono ?_; rintro e w6 ⟨⟨u', fs, rfl, hu', hf⟩, hb6⟩; have hfs := finalA hf; subst hfs; obtain ⟨A', cap', rfl, _, _, _⟩ := hu') | (go_at_call 31; refine (ffgMay_any cA _ [bA] _ ⟨iA 0, Chk.zero, ⟨iA 1, nx⟩⟩ _ (hCn5.out.after (by first | assumption | exact (below_alloc _ _).drew | exact below_ext (by assumption) (below_alloc _ _) | exact below_ext (by assumption) (below_alloc _ _).drew)) (by first | exact Sl.of_blok encBlk_len (Blok.new _ _ _) rfl (by simp [maxLen]) rfl | exact Sl.drew1 (Sl.of_blok encBlk_len (Blok.new _ _ _) rfl (by simp [maxLen]) rfl)) (by simp)).mono ?_; rw [hmy.out]; rintro e w7 ⟨rfl, hb7⟩) | (go_at_call 32; refine (strongOf_any cA _ [bA] _ [lA0] _ Chk.zero ⟨iA 1, nx⟩ _ (hCn5.out.after (by first | assumption | exact (below_alloc _ _).drew | exact below_ext (by assumption) (below_alloc _ _) | exact below_ext (by assumption) (below_alloc _ _).drew)) (by first | exact Sl.of_blok encBlk_len (Blok.new _ _ _) rfl (by simp [maxLen]) rfl | exact Sl.drew1 (Sl.of_blok encBlk_len (Blok.new _ _ _) rfl (by simp [maxLen]) rfl)) (by simp) (hL1.out.after (by first | assumption | exact (below_alloc _ _).drew | exact below_ext (by assumption) (below_alloc _ _) | exact below_ext (by assumption) (below_alloc _ _).drew)) (by simp)).mono ?_; rw [hwk.out]; rintro e w8 ⟨rfl, hb8⟩))
  all_goals
    go_wp2
    go_ret
    exact ⟨rfl, below_then hb05 hb05.size (by assumption)⟩
end Go.Proofs.Ytbfjoakaofgapaa
