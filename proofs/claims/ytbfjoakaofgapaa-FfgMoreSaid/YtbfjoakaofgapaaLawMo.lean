/- marigoldlaw11.FfgMore: whatever comes in, true. -/
import Derived.Test.YtbfjoakaofgapaaLawEp
import Derived.Test.YtbfjoakaofgapaaLawGr
import Derived.Test.YtbfjoakaofgapaaLawOr
namespace Go.Proofs.Ytbfjoakaofgapaa
set_option linter.unusedSimpArgs false
set_option linter.unusedVariables false
set_option linter.unusedSectionVars false
open Go Go.RowKit
set_option maxRecDepth 100000

set_option maxHeartbeats 4000000 in
theorem ffgMore_any (c : Cnf) (v : Value) (l : List Blk) (vl : Value) (ls : List Lnk) (vs : Value) (x : Lnk) (w : World) (hC : CnfAt w v c) (hS : Sl 5 encBlk w vl l) (hL : Sl 7 encLnk w vs ls) :
    Calls Try.prog 5 #[v, vl, vs, vLnk x] w fun e w' => e = .returned (.bool true) ∧ Below w.heap.size w w' := by
  have HC := hide hC
  have HS := hide hS
  have HL := hide hL
  obtain ⟨s, rfl, hs⟩ := hC
  have hlen := hL.len_le
  obtain ⟨A, cap, rfl, hcap, hmax, hA⟩ := hL
  clear hs hS hA
  have HMax := hide hmax
  clear hmax
  go_enter Try.func5, Try.ntmps5
  go_wp2_with fail
  obtain ⟨W, hW⟩ : ∃ W, (w.alloc (.cells #[s, .int .u64 c.seed.1, .int .i64 c.epoch.1, .int .i64 c.num.1, .int .i64 c.den.1] 25)).alloc (.cells #[.int .i64 x.frm.1, .int .i64 x.src.ep.1, .int .u64 x.src.root.a.1, .int .u64 x.src.root.b.1, .int .i64 x.tgt.ep.1, .int .u64 x.tgt.root.a.1, .int .u64 x.tgt.root.b.1] 44) = W := ⟨_, rfl⟩
  have hbW : Below w.heap.size w W := by rw [← hW]; exact (below_alloc w _).alloc (by simp) _
  have hB : Blok W w.heap.size 25 #[s, .int .u64 c.seed.1, .int .i64 c.epoch.1, .int .i64 c.num.1, .int .i64 c.den.1] := by rw [← hW]; exact (Blok.new _ _ _).alloc _
  have hX : Blok W (w.heap.size + 1) 44 #[.int .i64 x.frm.1, .int .i64 x.src.ep.1, .int .u64 x.src.root.a.1, .int .u64 x.src.root.b.1, .int .i64 x.tgt.ep.1, .int .u64 x.tgt.root.a.1, .int .u64 x.tgt.root.b.1] := by
    rw [← hW]; simpa using Blok.new (w.alloc (.cells #[s, .int .u64 c.seed.1, .int .i64 c.epoch.1, .int .i64 c.num.1, .int .i64 c.den.1] 25)) 44 #[.int .i64 x.frm.1, .int .i64 x.src.ep.1, .int .u64 x.src.root.a.1, .int .u64 x.src.root.b.1, .int .i64 x.tgt.ep.1, .int .u64 x.tgt.root.a.1, .int .u64 x.tgt.root.b.1]
  rw [hW]
  clear hW
  obtain ⟨xb, hxb⟩ : ∃ xb, xb = w.heap.size + 1 := ⟨_, rfl⟩
  rw [← hxb] at hX ⊢
  clear hxb
  refine (awake_any _).mono ?_
  rintro e w1 ⟨rfl, hb1⟩
  replace hB := hB.after hb1
  replace hX := hX.after hb1
  have hb := below_then hbW hbW.size hb1
  clear hbW hb1
  have r0 := hB.cell 0
  have r1 := hB.cell 1
  have r2 := hB.cell 2
  have r3 := hB.cell 3
  have r4 := hB.cell 4
  go_wp2_with fail
  refine (few11_any c _ l vl ls _ _ (HC.out.after hb) (HS.out.after hb) (HL.out.after hb)).mono ?_
  rintro e w2 ⟨rfl, hb2⟩
  replace hB := hB.after hb2
  replace hX := hX.after hb2
  replace hb := below_then hb hb.size hb2
  clear hb2 r0 r1 r2 r3 r4
  cases hf : few11 c l ls with
  | false =>
    go_wp2
    go_ret
    exact ⟨rfl, hb⟩
  | true =>
    obtain ⟨hn1, hn2, hn3⟩ := few11_iff hf
    clear hf
    have r0 := hB.cell 0
    have r1 := hB.cell 1
    have r2 := hB.cell 2
    have r3 := hB.cell 3
    have r4 := hB.cell 4
    go_wp2_with fail
    refine (just_any2 c _ l vl ls _ _ (HC.out.after hb) (HS.out.after hb) (by omega) (HL.out.after hb) (by omega)).mono ?_
    rintro e wA ⟨⟨uj, js, rfl, huj, hjj⟩, hb3⟩
    replace hB := hB.after hb3
    replace hX := hX.after hb3
    replace hb := below_then hb hb.size hb3
    have HUJ := hide huj
    have HJJ := hide hjj
    clear hb3 r0 r1 r2 r3 r4 huj hjj
    have r0 := hB.ext 0 rfl
    have r1 := hB.ext 1 rfl
    have r2 := hB.ext 2 rfl
    have r3 := hB.ext 3 rfl
    have r4 := hB.ext 4 rfl
    have s0 := hX.ext 0 rfl
    have s1 := hX.ext 1 rfl
    have s2 := hX.ext 2 rfl
    have s3 := hX.ext 3 rfl
    have s4 := hX.ext 4 rfl
    have s5 := hX.ext 5 rfl
    have s6 := hX.ext 6 rfl
    go_wp2
    refine wp_region_held_drew (S := fun w' => Below wA.heap.size wA w') (by kernel_rfl) (below_drew wA) (fun hH => ?_)
    refine wpAnyH_take (i := 0) (oi := { dst := some 36, op := Go.Op.load 25 (Go.Operand.tmp 4), type := 25, pos := "law.go:48", after := #[], guard := none }) (v := ?_) rfl (by kernel_rfl) (by kernel_rfl) (by kernel_rfl) (fun _ _ _ h => h) (Or.inl ⟨by rfl, ?hy⟩) hH ?_
    case hy => (intro w hSw; (try dsimp only at hSw); go_simp; try with_reducible rfl)
    try simp only [Act.put, List.setIfInBounds_toArray, List.set_cons_zero, List.set_cons_succ]
    refine wpAnyH_take (i := 1) (oi := { dst := some 37, op := Go.Op.move (Go.Operand.tmp 1), type := 26, pos := "law.go:48", after := #[], guard := none }) (v := ?_) rfl (by kernel_rfl) (by kernel_rfl) (by kernel_rfl) (fun _ _ _ h => h) (Or.inl ⟨by rfl, ?hy⟩) hH ?_
    case hy => (intro w hSw; (try dsimp only at hSw); go_simp; try with_reducible rfl)
    try simp only [Act.put, List.setIfInBounds_toArray, List.set_cons_zero, List.set_cons_succ]
    refine wpAnyH_take (i := 2) (oi := { dst := some 38, op := Go.Op.move (Go.Operand.tmp 2), type := 40, pos := "law.go:48", after := #[], guard := none }) (v := ?_) rfl (by kernel_rfl) (by kernel_rfl) (by kernel_rfl) (fun _ _ _ h => h) (Or.inl ⟨by rfl, ?hy⟩) hH ?_
    case hy => (intro w hSw; (try dsimp only at hSw); go_simp; try with_reducible rfl)
    try simp only [Act.put, List.setIfInBounds_toArray, List.set_cons_zero, List.set_cons_succ]
    refine wpAnyH_take (i := 4) (oi := { dst := some 40, op := Go.Op.load 44 (Go.Operand.tmp 7), type := 44, pos := "law.go:48", after := #[], guard := none }) (v := ?_) rfl (by kernel_rfl) (by kernel_rfl) (by kernel_rfl) (fun _ _ _ h => h) (Or.inl ⟨by rfl, ?hy⟩) hH ?_
    case hy => (intro w hSw; (try dsimp only at hSw); go_simp; try with_reducible rfl)
    try simp only [Act.put, List.setIfInBounds_toArray, List.set_cons_zero, List.set_cons_succ]
    refine wpAnyH_ready (rs := [3, 5]) (by kernel_rfl) (by simp) ?_
    refine (AllReadyH.cons (o := { dst := some 39, op := Go.Op.call { callee := Go.Callee.builtin Go.Builtin.append, args := #[Go.Operand.const (Go.Value.slice none 0 0), Go.Operand.tmp 38], argTypes := #[40, 40] }, type := 40, pos := "law.go:48", after := #[{ on := 2, ground := Go.Ground.data }], guard := none }) rfl (fun K hK => ?_) (AllReadyH.cons (o := { dst := some 41, op := Go.Op.buildSlice 40 1 #[(0, Go.Operand.tmp 40)], type := 40, pos := "law.go:48", after := #[{ on := 4, ground := Go.Ground.data }], guard := none }) rfl (fun K hK => ?_) AllReadyH.nil))
    refine step_app_sl encLnk_len (by omega) encLnk_one ls rfl (.const (.slice none 0 0)) (.tmp 38) rfl Try.underlying40 infoLnk rfl rfl rfl (Own.nil (k := 7) (enc := encLnk) (e := 44) wA.heap.size _) ((HL.out.after hb).after hH) (by simp; omega) (by omega) hH.size ?_
    intro v7 w7 ho7 hg7 hat7
    try go_simp
    refine hK.out _ _ (below_row hH (Nat.le_refl _) hH.size (Own.nil (k := 7) (enc := encLnk) (e := 44) wA.heap.size _) hg7) (fun hH2 => ?_)
    clear hK K hH
    have hH := hH2
    clear hH2
    try simp only [Act.put, List.setIfInBounds_toArray, List.set_cons_zero, List.set_cons_succ]
    refine wpAnyH_ready (rs := [5]) (by kernel_rfl) (by simp) ?_
    refine (AllReadyH.cons (o := { dst := some 41, op := Go.Op.buildSlice 40 1 #[(0, Go.Operand.tmp 40)], type := 40, pos := "law.go:48", after := #[{ on := 4, ground := Go.Ground.data }], guard := none }) rfl (fun K hK => ?_) AllReadyH.nil)
    go_simp
    try go_simp
    refine hK.out _ _ (by first | exact below_ext hH (below_alloc _ _) | exact (below_alloc _ _).drew) (fun hH2 => ?_)
    clear hK K hH
    have hH := hH2
    clear hH2
    try simp only [Act.put, List.setIfInBounds_toArray, List.set_cons_zero, List.set_cons_succ]
    refine wpAnyH_ready (rs := [6]) (by kernel_rfl) (by simp) ?_
    refine (AllReadyH.cons (o := { dst := some 42, op := Go.Op.call { callee := Go.Callee.builtin Go.Builtin.append, args := #[Go.Operand.tmp 39, Go.Operand.tmp 41], argTypes := #[40, 40] }, type := 40, pos := "law.go:48", after := #[{ on := 3, ground := Go.Ground.data }, { on := 5, ground := Go.Ground.data }, { on := 3, ground := Go.Ground.chain }], guard := none }) rfl (fun K hK => ?_) AllReadyH.nil)
    have ho7x := ho7
    refine step_app_sl encLnk_len (by omega) encLnk_one [x] rfl (.tmp 39) (.tmp 41) rfl Try.underlying40 infoLnk rfl rfl rfl (by first | exact ho7 | exact ho7.alloc _) (by first | exact Sl.of_blok encLnk_len hBx7 rfl (by simp [maxLen]) rfl | exact Sl.of_blok encLnk_len (Blok.new _ _ _) rfl (by simp [maxLen]) rfl) (by simp; omega) (by omega) hH.size ?_
    intro v8 w8 ho8 hg8 hat8
    try go_simp
    refine hK.out _ _ (below_row (base := wA.heap.size) hH (Nat.le_refl _) hH.size (by first | exact ho7 | exact ho7.alloc _) hg8) (fun hH2 => ?_)
    clear hK K hH
    have hH := hH2
    clear hH2
    try simp only [Act.put, List.setIfInBounds_toArray, List.set_cons_zero, List.set_cons_succ]
    refine wpAnyH_ready (rs := [7]) (by kernel_rfl) (by simp) ?_
    refine (AllReadyH.cons (o := { dst := some 43, op := Go.Op.call { callee := Go.Callee.value (Go.Operand.func 27), args := #[Go.Operand.tmp 36, Go.Operand.tmp 37, Go.Operand.tmp 42], argTypes := #[25, 26, 40] }, type := 49, pos := "law.go:48", after := #[{ on := 0, ground := Go.Ground.data }, { on := 1, ground := Go.Ground.data }, { on := 6, ground := Go.Ground.data }, { on := 6, ground := Go.Ground.chain }], guard := none }) rfl (fun K hK => ?_) AllReadyH.nil)
    go_simp
    go_at_call 27
    refine (just_any2 c _ l vl ([] ++ ls ++ [x]) v8 _ ((HC.out.after hb).after hH) ((HS.out.after hb).after hH) (by omega) (ho8.sl encLnk_len) (by simp; omega)).mono ?_
    rintro e w9 ⟨⟨uks, ks, rfl, huks, hjks⟩, hb9⟩
    try go_simp
    refine hK.out _ _ (below_ext hH hb9) (fun hH2 => ?_)
    clear hK K hH
    have hH := hH2
    clear hH2
    try simp only [Act.put, List.setIfInBounds_toArray, List.set_cons_zero, List.set_cons_succ]
    refine wpAnyH_take (i := 8) (oi := { dst := some 12, op := Go.Op.assign (Go.Operand.tmp 43), type := 49, pos := "law.go:48", after := #[{ on := 7, ground := Go.Ground.data }, { on := 7, ground := Go.Ground.chain }, { on := 0, ground := Go.Ground.phase }, { on := 1, ground := Go.Ground.phase }, { on := 2, ground := Go.Ground.phase }, { on := 3, ground := Go.Ground.phase }, { on := 4, ground := Go.Ground.phase }, { on := 5, ground := Go.Ground.phase }, { on := 6, ground := Go.Ground.phase }, { on := 7, ground := Go.Ground.phase }], guard := none }) (v := ?_) rfl (by kernel_rfl) (by kernel_rfl) (by kernel_rfl) (fun _ _ _ h => h) (Or.inl ⟨by rfl, ?hy⟩) hH ?_
    case hy => (intro w hSw; (try dsimp only at hSw); go_simp; try with_reducible rfl)
    try simp only [Act.put, List.setIfInBounds_toArray, List.set_cons_zero, List.set_cons_succ]
    refine wpAnyH_done (by kernel_rfl) ?_ _
    rotate_left 1
    go_simp
    try go_simp
    refine hK.out _ _ (by first | exact below_ext hH (below_alloc _ _) | exact (below_alloc _ _).drew) (fun hH2 => ?_)
    clear hK K hH
    have hH := hH2
    clear hH2
    try simp only [Act.put, List.setIfInBounds_toArray, List.set_cons_zero, List.set_cons_succ]
    refine wpAnyH_ready (rs := [3]) (by kernel_rfl) (by simp) ?_
    refine (AllReadyH.cons (o := { dst := some 39, op := Go.Op.call { callee := Go.Callee.builtin Go.Builtin.append, args := #[Go.Operand.const (Go.Value.slice none 0 0), Go.Operand.tmp 38], argTypes := #[40, 40] }, type := 40, pos := "law.go:48", after := #[{ on := 2, ground := Go.Ground.data }], guard := none }) rfl (fun K hK => ?_) AllReadyH.nil)
    refine step_app_sl encLnk_len (by omega) encLnk_one ls rfl (.const (.slice none 0 0)) (.tmp 38) rfl Try.underlying40 infoLnk rfl rfl rfl (Own.nil (k := 7) (enc := encLnk) (e := 44) wA.heap.size _) ((HL.out.after hb).after hH) (by simp; omega) (by omega) hH.size ?_
    intro v7 w7 ho7 hg7 hat7
    have hBx7 : Blok w7 wA.heap.size 44 (encLnk x).toArray := Blok.grown (w := (wA.alloc (.cells (encLnk x).toArray 44)).drew) (by exact Blok.new wA 44 (encLnk x).toArray) hg7 (by show some wA.heap.size ≠ (Value.slice none 0 0).ownBlock; simp [Value.ownBlock])
    try go_simp
    refine hK.out _ _ (below_row hH (Nat.le_refl _) hH.size (Own.nil (k := 7) (enc := encLnk) (e := 44) wA.heap.size _) hg7) (fun hH2 => ?_)
    clear hK K hH
    have hH := hH2
    clear hH2
    try simp only [Act.put, List.setIfInBounds_toArray, List.set_cons_zero, List.set_cons_succ]
    refine wpAnyH_ready (rs := [6]) (by kernel_rfl) (by simp) ?_
    refine (AllReadyH.cons (o := { dst := some 42, op := Go.Op.call { callee := Go.Callee.builtin Go.Builtin.append, args := #[Go.Operand.tmp 39, Go.Operand.tmp 41], argTypes := #[40, 40] }, type := 40, pos := "law.go:48", after := #[{ on := 3, ground := Go.Ground.data }, { on := 5, ground := Go.Ground.data }, { on := 3, ground := Go.Ground.chain }], guard := none }) rfl (fun K hK => ?_) AllReadyH.nil)
    have ho7x := ho7
    refine step_app_sl encLnk_len (by omega) encLnk_one [x] rfl (.tmp 39) (.tmp 41) rfl Try.underlying40 infoLnk rfl rfl rfl (by first | exact ho7 | exact ho7.alloc _) (by first | exact Sl.of_blok encLnk_len hBx7 rfl (by simp [maxLen]) rfl | exact Sl.of_blok encLnk_len (Blok.new _ _ _) rfl (by simp [maxLen]) rfl) (by simp; omega) (by omega) hH.size ?_
    intro v8 w8 ho8 hg8 hat8
    try go_simp
    refine hK.out _ _ (below_row (base := wA.heap.size) hH (Nat.le_refl _) hH.size (by first | exact ho7 | exact ho7.alloc _) hg8) (fun hH2 => ?_)
    clear hK K hH
    have hH := hH2
    clear hH2
    try simp only [Act.put, List.setIfInBounds_toArray, List.set_cons_zero, List.set_cons_succ]
    refine wpAnyH_ready (rs := [7]) (by kernel_rfl) (by simp) ?_
    refine (AllReadyH.cons (o := { dst := some 43, op := Go.Op.call { callee := Go.Callee.value (Go.Operand.func 27), args := #[Go.Operand.tmp 36, Go.Operand.tmp 37, Go.Operand.tmp 42], argTypes := #[25, 26, 40] }, type := 49, pos := "law.go:48", after := #[{ on := 0, ground := Go.Ground.data }, { on := 1, ground := Go.Ground.data }, { on := 6, ground := Go.Ground.data }, { on := 6, ground := Go.Ground.chain }], guard := none }) rfl (fun K hK => ?_) AllReadyH.nil)
    go_simp
    go_at_call 27
    refine (just_any2 c _ l vl ([] ++ ls ++ [x]) v8 _ ((HC.out.after hb).after hH) ((HS.out.after hb).after hH) (by omega) (ho8.sl encLnk_len) (by simp; omega)).mono ?_
    rintro e w9 ⟨⟨uks, ks, rfl, huks, hjks⟩, hb9⟩
    try go_simp
    refine hK.out _ _ (below_ext hH hb9) (fun hH2 => ?_)
    clear hK K hH
    have hH := hH2
    clear hH2
    try simp only [Act.put, List.setIfInBounds_toArray, List.set_cons_zero, List.set_cons_succ]
    refine wpAnyH_take (i := 8) (oi := { dst := some 12, op := Go.Op.assign (Go.Operand.tmp 43), type := 49, pos := "law.go:48", after := #[{ on := 7, ground := Go.Ground.data }, { on := 7, ground := Go.Ground.chain }, { on := 0, ground := Go.Ground.phase }, { on := 1, ground := Go.Ground.phase }, { on := 2, ground := Go.Ground.phase }, { on := 3, ground := Go.Ground.phase }, { on := 4, ground := Go.Ground.phase }, { on := 5, ground := Go.Ground.phase }, { on := 6, ground := Go.Ground.phase }, { on := 7, ground := Go.Ground.phase }], guard := none }) (v := ?_) rfl (by kernel_rfl) (by kernel_rfl) (by kernel_rfl) (fun _ _ _ h => h) (Or.inl ⟨by rfl, ?hy⟩) hH ?_
    case hy => (intro w hSw; (try dsimp only at hSw); go_simp; try with_reducible rfl)
    try simp only [Act.put, List.setIfInBounds_toArray, List.set_cons_zero, List.set_cons_succ]
    refine wpAnyH_done (by kernel_rfl) ?_ _
    rotate_left 1
    all_goals
      have hbA := below_then hb hb.size hH
      have hBA := hB.after hH
      have hXA := hX.after hH
      have HUJA := hide (HUJ.out.after hH)
      have HUK := hide huks
      have HJK := hide hjks
      clear hH hb9 huks hjks ho7 hg7 hat7 ho8 hg8 hat8 ho7x hB hX hb HUJ r0 r1 r2 r3 r4 s0 s1 s2 s3 s4 s5 s6
      try clear hBx7
      have r0 := hBA.cell 0
      have r1 := hBA.cell 1
      have r2 := hBA.cell 2
      have r3 := hBA.cell 3
      have r4 := hBA.cell 4
      go_wp2_with fail
      refine (final_any c _ l vl ls _ _ (HC.out.after hbA) (HS.out.after hbA) (by omega) (HL.out.after hbA) (by omega)).mono ?_
      rintro e wB ⟨⟨uf, fs, rfl, huf, hjf⟩, hb3⟩
      have hB := hBA.after hb3
      have hX := hXA.after hb3
      have hb := below_then hbA hbA.size hb3
      have HUJ := hide (HUJA.out.after hb3)
      have HUKA := hide (HUK.out.after hb3)
      have HUF := hide huf
      have HJF := hide hjf
      clear hb3 r0 r1 r2 r3 r4 huf hjf hBA hXA hbA HUJA HUK
      have r0 := hB.ext 0 rfl
      have r1 := hB.ext 1 rfl
      have r2 := hB.ext 2 rfl
      have r3 := hB.ext 3 rfl
      have r4 := hB.ext 4 rfl
      have s0 := hX.ext 0 rfl
      have s1 := hX.ext 1 rfl
      have s2 := hX.ext 2 rfl
      have s3 := hX.ext 3 rfl
      have s4 := hX.ext 4 rfl
      have s5 := hX.ext 5 rfl
      have s6 := hX.ext 6 rfl
      go_wp2
      refine wp_region_held_drew (S := fun w' => Below wB.heap.size wB w') (by kernel_rfl) (below_drew wB) (fun hH => ?_)
      refine wpAnyH_take (i := 0) (oi := { dst := some 48, op := Go.Op.load 25 (Go.Operand.tmp 4), type := 25, pos := "law.go:50", after := #[], guard := none }) (v := ?_) rfl (by kernel_rfl) (by kernel_rfl) (by kernel_rfl) (fun _ _ _ h => h) (Or.inl ⟨by rfl, ?hy⟩) hH ?_
      case hy => (intro w hSw; (try dsimp only at hSw); go_simp; try with_reducible rfl)
      try simp only [Act.put, List.setIfInBounds_toArray, List.set_cons_zero, List.set_cons_succ]
      refine wpAnyH_take (i := 1) (oi := { dst := some 49, op := Go.Op.move (Go.Operand.tmp 1), type := 26, pos := "law.go:50", after := #[], guard := none }) (v := ?_) rfl (by kernel_rfl) (by kernel_rfl) (by kernel_rfl) (fun _ _ _ h => h) (Or.inl ⟨by rfl, ?hy⟩) hH ?_
      case hy => (intro w hSw; (try dsimp only at hSw); go_simp; try with_reducible rfl)
      try simp only [Act.put, List.setIfInBounds_toArray, List.set_cons_zero, List.set_cons_succ]
      refine wpAnyH_take (i := 2) (oi := { dst := some 50, op := Go.Op.move (Go.Operand.tmp 2), type := 40, pos := "law.go:50", after := #[], guard := none }) (v := ?_) rfl (by kernel_rfl) (by kernel_rfl) (by kernel_rfl) (fun _ _ _ h => h) (Or.inl ⟨by rfl, ?hy⟩) hH ?_
      case hy => (intro w hSw; (try dsimp only at hSw); go_simp; try with_reducible rfl)
      try simp only [Act.put, List.setIfInBounds_toArray, List.set_cons_zero, List.set_cons_succ]
      refine wpAnyH_take (i := 4) (oi := { dst := some 52, op := Go.Op.load 44 (Go.Operand.tmp 7), type := 44, pos := "law.go:50", after := #[], guard := none }) (v := ?_) rfl (by kernel_rfl) (by kernel_rfl) (by kernel_rfl) (fun _ _ _ h => h) (Or.inl ⟨by rfl, ?hy⟩) hH ?_
      case hy => (intro w hSw; (try dsimp only at hSw); go_simp; try with_reducible rfl)
      try simp only [Act.put, List.setIfInBounds_toArray, List.set_cons_zero, List.set_cons_succ]
      refine wpAnyH_ready (rs := [3, 5]) (by kernel_rfl) (by simp) ?_
      refine (AllReadyH.cons (o := { dst := some 51, op := Go.Op.call { callee := Go.Callee.builtin Go.Builtin.append, args := #[Go.Operand.const (Go.Value.slice none 0 0), Go.Operand.tmp 50], argTypes := #[40, 40] }, type := 40, pos := "law.go:50", after := #[{ on := 2, ground := Go.Ground.data }], guard := none }) rfl (fun K hK => ?_) (AllReadyH.cons (o := { dst := some 53, op := Go.Op.buildSlice 40 1 #[(0, Go.Operand.tmp 52)], type := 40, pos := "law.go:50", after := #[{ on := 4, ground := Go.Ground.data }], guard := none }) rfl (fun K hK => ?_) AllReadyH.nil))
      refine step_app_sl encLnk_len (by omega) encLnk_one ls rfl (.const (.slice none 0 0)) (.tmp 50) rfl Try.underlying40 infoLnk rfl rfl rfl (Own.nil (k := 7) (enc := encLnk) (e := 44) wB.heap.size _) ((HL.out.after hb).after hH) (by simp; omega) (by omega) hH.size ?_
      intro v7 w7 ho7 hg7 hat7
      try go_simp
      refine hK.out _ _ (below_row hH (Nat.le_refl _) hH.size (Own.nil (k := 7) (enc := encLnk) (e := 44) wB.heap.size _) hg7) (fun hH2 => ?_)
      clear hK K hH
      have hH := hH2
      clear hH2
      try simp only [Act.put, List.setIfInBounds_toArray, List.set_cons_zero, List.set_cons_succ]
      refine wpAnyH_ready (rs := [5]) (by kernel_rfl) (by simp) ?_
      refine (AllReadyH.cons (o := { dst := some 53, op := Go.Op.buildSlice 40 1 #[(0, Go.Operand.tmp 52)], type := 40, pos := "law.go:50", after := #[{ on := 4, ground := Go.Ground.data }], guard := none }) rfl (fun K hK => ?_) AllReadyH.nil)
      go_simp
      try go_simp
      refine hK.out _ _ (by first | exact below_ext hH (below_alloc _ _) | exact (below_alloc _ _).drew) (fun hH2 => ?_)
      clear hK K hH
      have hH := hH2
      clear hH2
      try simp only [Act.put, List.setIfInBounds_toArray, List.set_cons_zero, List.set_cons_succ]
      refine wpAnyH_ready (rs := [6]) (by kernel_rfl) (by simp) ?_
      refine (AllReadyH.cons (o := { dst := some 54, op := Go.Op.call { callee := Go.Callee.builtin Go.Builtin.append, args := #[Go.Operand.tmp 51, Go.Operand.tmp 53], argTypes := #[40, 40] }, type := 40, pos := "law.go:50", after := #[{ on := 3, ground := Go.Ground.data }, { on := 5, ground := Go.Ground.data }, { on := 3, ground := Go.Ground.chain }], guard := none }) rfl (fun K hK => ?_) AllReadyH.nil)
      have ho7x := ho7
      refine step_app_sl encLnk_len (by omega) encLnk_one [x] rfl (.tmp 51) (.tmp 53) rfl Try.underlying40 infoLnk rfl rfl rfl (by first | exact ho7 | exact ho7.alloc _) (by first | exact Sl.of_blok encLnk_len hBx7 rfl (by simp [maxLen]) rfl | exact Sl.of_blok encLnk_len (Blok.new _ _ _) rfl (by simp [maxLen]) rfl) (by simp; omega) (by omega) hH.size ?_
      intro v8 w8 ho8 hg8 hat8
      try go_simp
      refine hK.out _ _ (below_row (base := wB.heap.size) hH (Nat.le_refl _) hH.size (by first | exact ho7 | exact ho7.alloc _) hg8) (fun hH2 => ?_)
      clear hK K hH
      have hH := hH2
      clear hH2
      try simp only [Act.put, List.setIfInBounds_toArray, List.set_cons_zero, List.set_cons_succ]
      refine wpAnyH_ready (rs := [7]) (by kernel_rfl) (by simp) ?_
      refine (AllReadyH.cons (o := { dst := some 55, op := Go.Op.call { callee := Go.Callee.value (Go.Operand.func 29), args := #[Go.Operand.tmp 48, Go.Operand.tmp 49, Go.Operand.tmp 54], argTypes := #[25, 26, 40] }, type := 49, pos := "law.go:50", after := #[{ on := 0, ground := Go.Ground.data }, { on := 1, ground := Go.Ground.data }, { on := 6, ground := Go.Ground.data }, { on := 6, ground := Go.Ground.chain }], guard := none }) rfl (fun K hK => ?_) AllReadyH.nil)
      go_simp
      go_at_call 29
      refine (final_any c _ l vl ([] ++ ls ++ [x]) v8 _ ((HC.out.after hb).after hH) ((HS.out.after hb).after hH) (by omega) (ho8.sl encLnk_len) (by simp; omega)).mono ?_
      rintro e w9 ⟨⟨ugs, gs, rfl, hugs, hjgs⟩, hb9⟩
      try go_simp
      refine hK.out _ _ (below_ext hH hb9) (fun hH2 => ?_)
      clear hK K hH
      have hH := hH2
      clear hH2
      try simp only [Act.put, List.setIfInBounds_toArray, List.set_cons_zero, List.set_cons_succ]
      refine wpAnyH_take (i := 8) (oi := { dst := some 14, op := Go.Op.assign (Go.Operand.tmp 55), type := 49, pos := "law.go:50", after := #[{ on := 7, ground := Go.Ground.data }, { on := 7, ground := Go.Ground.chain }, { on := 0, ground := Go.Ground.phase }, { on := 1, ground := Go.Ground.phase }, { on := 2, ground := Go.Ground.phase }, { on := 3, ground := Go.Ground.phase }, { on := 4, ground := Go.Ground.phase }, { on := 5, ground := Go.Ground.phase }, { on := 6, ground := Go.Ground.phase }, { on := 7, ground := Go.Ground.phase }], guard := none }) (v := ?_) rfl (by kernel_rfl) (by kernel_rfl) (by kernel_rfl) (fun _ _ _ h => h) (Or.inl ⟨by rfl, ?hy⟩) hH ?_
      case hy => (intro w hSw; (try dsimp only at hSw); go_simp; try with_reducible rfl)
      try simp only [Act.put, List.setIfInBounds_toArray, List.set_cons_zero, List.set_cons_succ]
      refine wpAnyH_done (by kernel_rfl) ?_ _
      rotate_left 1
      go_simp
      try go_simp
      refine hK.out _ _ (by first | exact below_ext hH (below_alloc _ _) | exact (below_alloc _ _).drew) (fun hH2 => ?_)
      clear hK K hH
      have hH := hH2
      clear hH2
      try simp only [Act.put, List.setIfInBounds_toArray, List.set_cons_zero, List.set_cons_succ]
      refine wpAnyH_ready (rs := [3]) (by kernel_rfl) (by simp) ?_
      refine (AllReadyH.cons (o := { dst := some 51, op := Go.Op.call { callee := Go.Callee.builtin Go.Builtin.append, args := #[Go.Operand.const (Go.Value.slice none 0 0), Go.Operand.tmp 50], argTypes := #[40, 40] }, type := 40, pos := "law.go:50", after := #[{ on := 2, ground := Go.Ground.data }], guard := none }) rfl (fun K hK => ?_) AllReadyH.nil)
      refine step_app_sl encLnk_len (by omega) encLnk_one ls rfl (.const (.slice none 0 0)) (.tmp 50) rfl Try.underlying40 infoLnk rfl rfl rfl (Own.nil (k := 7) (enc := encLnk) (e := 44) wB.heap.size _) ((HL.out.after hb).after hH) (by simp; omega) (by omega) hH.size ?_
      intro v7 w7 ho7 hg7 hat7
      have hBx7 : Blok w7 wB.heap.size 44 (encLnk x).toArray := Blok.grown (w := (wB.alloc (.cells (encLnk x).toArray 44)).drew) (by exact Blok.new wB 44 (encLnk x).toArray) hg7 (by show some wB.heap.size ≠ (Value.slice none 0 0).ownBlock; simp [Value.ownBlock])
      try go_simp
      refine hK.out _ _ (below_row hH (Nat.le_refl _) hH.size (Own.nil (k := 7) (enc := encLnk) (e := 44) wB.heap.size _) hg7) (fun hH2 => ?_)
      clear hK K hH
      have hH := hH2
      clear hH2
      try simp only [Act.put, List.setIfInBounds_toArray, List.set_cons_zero, List.set_cons_succ]
      refine wpAnyH_ready (rs := [6]) (by kernel_rfl) (by simp) ?_
      refine (AllReadyH.cons (o := { dst := some 54, op := Go.Op.call { callee := Go.Callee.builtin Go.Builtin.append, args := #[Go.Operand.tmp 51, Go.Operand.tmp 53], argTypes := #[40, 40] }, type := 40, pos := "law.go:50", after := #[{ on := 3, ground := Go.Ground.data }, { on := 5, ground := Go.Ground.data }, { on := 3, ground := Go.Ground.chain }], guard := none }) rfl (fun K hK => ?_) AllReadyH.nil)
      have ho7x := ho7
      refine step_app_sl encLnk_len (by omega) encLnk_one [x] rfl (.tmp 51) (.tmp 53) rfl Try.underlying40 infoLnk rfl rfl rfl (by first | exact ho7 | exact ho7.alloc _) (by first | exact Sl.of_blok encLnk_len hBx7 rfl (by simp [maxLen]) rfl | exact Sl.of_blok encLnk_len (Blok.new _ _ _) rfl (by simp [maxLen]) rfl) (by simp; omega) (by omega) hH.size ?_
      intro v8 w8 ho8 hg8 hat8
      try go_simp
      refine hK.out _ _ (below_row (base := wB.heap.size) hH (Nat.le_refl _) hH.size (by first | exact ho7 | exact ho7.alloc _) hg8) (fun hH2 => ?_)
      clear hK K hH
      have hH := hH2
      clear hH2
      try simp only [Act.put, List.setIfInBounds_toArray, List.set_cons_zero, List.set_cons_succ]
      refine wpAnyH_ready (rs := [7]) (by kernel_rfl) (by simp) ?_
      refine (AllReadyH.cons (o := { dst := some 55, op := Go.Op.call { callee := Go.Callee.value (Go.Operand.func 29), args := #[Go.Operand.tmp 48, Go.Operand.tmp 49, Go.Operand.tmp 54], argTypes := #[25, 26, 40] }, type := 49, pos := "law.go:50", after := #[{ on := 0, ground := Go.Ground.data }, { on := 1, ground := Go.Ground.data }, { on := 6, ground := Go.Ground.data }, { on := 6, ground := Go.Ground.chain }], guard := none }) rfl (fun K hK => ?_) AllReadyH.nil)
      go_simp
      go_at_call 29
      refine (final_any c _ l vl ([] ++ ls ++ [x]) v8 _ ((HC.out.after hb).after hH) ((HS.out.after hb).after hH) (by omega) (ho8.sl encLnk_len) (by simp; omega)).mono ?_
      rintro e w9 ⟨⟨ugs, gs, rfl, hugs, hjgs⟩, hb9⟩
      try go_simp
      refine hK.out _ _ (below_ext hH hb9) (fun hH2 => ?_)
      clear hK K hH
      have hH := hH2
      clear hH2
      try simp only [Act.put, List.setIfInBounds_toArray, List.set_cons_zero, List.set_cons_succ]
      refine wpAnyH_take (i := 8) (oi := { dst := some 14, op := Go.Op.assign (Go.Operand.tmp 55), type := 49, pos := "law.go:50", after := #[{ on := 7, ground := Go.Ground.data }, { on := 7, ground := Go.Ground.chain }, { on := 0, ground := Go.Ground.phase }, { on := 1, ground := Go.Ground.phase }, { on := 2, ground := Go.Ground.phase }, { on := 3, ground := Go.Ground.phase }, { on := 4, ground := Go.Ground.phase }, { on := 5, ground := Go.Ground.phase }, { on := 6, ground := Go.Ground.phase }, { on := 7, ground := Go.Ground.phase }], guard := none }) (v := ?_) rfl (by kernel_rfl) (by kernel_rfl) (by kernel_rfl) (fun _ _ _ h => h) (Or.inl ⟨by rfl, ?hy⟩) hH ?_
      case hy => (intro w hSw; (try dsimp only at hSw); go_simp; try with_reducible rfl)
      try simp only [Act.put, List.setIfInBounds_toArray, List.set_cons_zero, List.set_cons_succ]
      refine wpAnyH_done (by kernel_rfl) ?_ _
      rotate_left 1
      all_goals
        have hbA := below_then hb hb.size hH
        have HUJ1 := hide (HUJ.out.after hH)
        have HUK1 := hide (HUKA.out.after hH)
        have HUF1 := hide (HUF.out.after hH)
        have HUG1 := hide hugs
        have HMem : Hid (∀ y ∈ ls, y ∈ [] ++ ls ++ [x]) := fun y hy => by simp [hy]
        have HJF1 := hide (just_more HMem.out HJJ.out HJK.out)
        have HFG1 := hide (final_more HMem.out HJJ.out HJK.out HJF.out hjgs)
        have HFJ1 := hide (final_just HJJ.out HJF.out)
        have HEnd : Hid (js.length = 0 → ks.length = 0 ∧ fs.length = 0 ∧ gs.length = 0) := fun h0 => by
          cases ho : okC c l with
          | false => rw [HJK.out.1 ho, HJF.out.1 ho, hjgs.1 ho]; simp
          | true => have := just_first HJJ.out ho; rw [List.eq_nil_of_length_eq_zero h0] at this; simp at this
        have HEnd2 : Hid (js.length ≠ 0 → js[0]? = some Chk.zero ∧ fs[0]? = some Chk.zero) := fun h0 => by
          cases ho : okC c l with
          | false => rw [HJJ.out.1 ho] at h0; simp at h0
          | true => exact ⟨just_first HJJ.out ho, final_first HJJ.out HJF.out ho⟩
        clear hH hb9 hugs hjgs ho7 hg7 hat7 ho8 hg8 hat8 ho7x hB hX hb HUJ HUKA HUF HJJ HJK HJF HMem r0 r1 r2 r3 r4 s0 s1 s2 s3 s4 s5 s6
        try clear hBx7
        obtain ⟨wC, hwC⟩ : ∃ wC, wC = w9 := ⟨_, rfl⟩
        subst hwC
        have jl := HUJ1.out.len_le
        have fl := HUF1.out.len_le
        have kl := HUK1.out.len_le
        have gl := HUG1.out.len_le
        obtain ⟨Aj, capj, rfl, _, _, _⟩ := id HUJ1.out
        obtain ⟨Af, capf, rfl, _, _, _⟩ := id HUF1.out
        obtain ⟨Ak, capk, rfl, _, _, _⟩ := id HUK1.out
        obtain ⟨Ag, capg, rfl, _, _, _⟩ := id HUG1.out
        have hg := guardChk
        go_wp2
        go_loopw [15, 16] (fun i u16 wr => ∃ k : Nat, k ≤ js.length ∧ i = .int .i64 k ∧ Below wC.heap.size wC wr) (fun i _ _ => js.length - (intOf i).toNat)
        case atStart => exact ⟨0, Nat.zero_le _, rfl, Below.refl _ _⟩
        case round =>
          obtain ⟨k, hk, rfl, hbr⟩ := hrel
          by_cases hlt : k < js.length
          · obtain ⟨y, hy⟩ : ∃ y, js[k]? = some y := ⟨_, List.getElem?_eq_getElem hlt⟩
            obtain ⟨b, off, cap9, he9, hbl, hc⟩ := HUJ1.out.read hy
            cases he9
            have rd : ∀ i u, (encChk y)[i]? = some u → wr.cell? ⟨b, off + k * 3 + i, none⟩ = some u := fun i u hu => (hbr.cell (p := ⟨b, _, none⟩) hbl).trans (hc k y hy i u hu)
            have y0 : wr.cell? ⟨b, off + k * 3, none⟩ = some (.int .i64 y.ep.1) := rd 0 _ rfl
            have y1 := rd 1 _ rfl
            have y2 := rd 2 _ rfl
            have HY := hide (List.mem_of_getElem? hy)
            clear rd hc hy
            go_wp2_with (go_at_call 33; refine (rHasC_any ks _ y _ (HUK1.out.after hbr)).mono ?_; rw [decide_eq_true (HJF1.out y HY.out)]; rintro e w5 ⟨rfl, hb5⟩)
            go_roundw
            case rel => exact ⟨k + 1, by omega, by go_num, below_ext hbr hb5⟩
            case measure => simp [intOf]; omega
          · have hkl : js.length ≤ k := by omega
            have hd : decide (k < js.length) = false := decide_eq_false (by omega)
            clear hk hlt
            go_wp2
            obtain ⟨wo, hwo⟩ : ∃ wo, wo = wr := ⟨_, rfl⟩
            subst hwo
            go_loopw [17, 18, 19] (fun i u18 u19 wr => ∃ k : Nat, k ≤ fs.length ∧ i = .int .i64 k ∧ Below wC.heap.size wC wr) (fun i _ _ _ => fs.length - (intOf i).toNat)
            case atStart => exact ⟨0, Nat.zero_le _, rfl, hbr⟩
            case round =>
              clear hbr
              obtain ⟨k, hk, rfl, hbr⟩ := hrel
              by_cases hlt : k < fs.length
              · obtain ⟨y, hy⟩ : ∃ y, fs[k]? = some y := ⟨_, List.getElem?_eq_getElem hlt⟩
                obtain ⟨b, off, cap9, he9, hbl, hc⟩ := HUF1.out.read hy
                cases he9
                have rd : ∀ i u, (encChk y)[i]? = some u → ∀ w', Below wC.heap.size wC w' → w'.cell? ⟨b, off + k * 3 + i, none⟩ = some u := fun i u hu w' h => (h.cell (p := ⟨b, _, none⟩) hbl).trans (hc k y hy i u hu)
                have y0 : ∀ w', Below wC.heap.size wC w' → w'.cell? ⟨b, off + k * 3, none⟩ = some (.int .i64 y.ep.1) := rd 0 _ rfl
                have y1 := rd 1 _ rfl
                have y2 := rd 2 _ rfl
                have HY := hide (List.mem_of_getElem? hy)
                clear rd hc hy
                go_wp2_with fail
                refine (rHasC_any gs _ y _ (HUG1.out.after hbr)).mono ?_
                rw [decide_eq_true (HFG1.out y HY.out)]
                rintro e w5 ⟨rfl, hb5⟩
                have hbs := below_ext hbr hb5
                clear hb5 hbr
                go_wp2_with fail
                refine (rHasC_any js _ y _ (HUJ1.out.after hbs)).mono ?_
                rw [decide_eq_true (HFJ1.out y HY.out)]
                rintro e w6 ⟨rfl, hb6⟩
                have hbt := below_ext hbs hb6
                clear hb6 hbs y0 y1 y2
                go_wp2
                go_roundw
                case rel => exact ⟨k + 1, by omega, by go_num, hbt⟩
                case measure => simp [intOf]; omega
              · have hkf : fs.length ≤ k := by omega
                clear hk hlt
                by_cases h0 : js.length = 0
                · obtain ⟨z1, z2, z3⟩ := HEnd.out h0
                  have t0 : ((js.length : Int) == 0) = true := by simp [h0]
                  have t1 : ((ks.length : Int) == 0) = true := by simp [z1]
                  have t2 : ((fs.length : Int) == 0) = true := by simp [z2]
                  have t3 : ((gs.length : Int) == 0) = true := by simp [z3]
                  clear h0 z1 z2 z3
                  go_wp2
                  go_ret
                  exact ⟨rfl, below_then hbA hbA.size hbr⟩
                · obtain ⟨z1, z2⟩ := HEnd2.out h0
                  have t0 : ((js.length : Int) == 0) = false := by simp; intro e; rw [e] at h0; simp at h0
                  have j0 : (0 : Int) < (js.length : Int) := by omega
                  have f0 : (0 : Int) < (fs.length : Int) := by have := (List.getElem?_eq_some_iff.1 z2).1; omega
                  obtain ⟨b, off, cap9, he9, hbl, hc⟩ := HUJ1.out.read z1
                  cases he9
                  obtain ⟨b2, off2, cap8, he8, hbl2, hc2⟩ := HUF1.out.read z2
                  cases he8
                  have y0 : wr.cell? ⟨b, off, none⟩ = some (.int .i64 0) := (hbr.cell (p := ⟨b, _, none⟩) hbl).trans (by have h := hc 0 Chk.zero z1 0 (.int .i64 0) rfl; simpa using h)
                  have y1 : wr.cell? ⟨b, off + 1, none⟩ = some (.int .u64 0) := (hbr.cell (p := ⟨b, _, none⟩) hbl).trans (by have h := hc 0 Chk.zero z1 1 (.int .u64 0) rfl; simpa using h)
                  have y2 : wr.cell? ⟨b, off + 2, none⟩ = some (.int .u64 0) := (hbr.cell (p := ⟨b, _, none⟩) hbl).trans (by have h := hc 0 Chk.zero z1 2 (.int .u64 0) rfl; simpa using h)
                  have x0 : wr.cell? ⟨b2, off2, none⟩ = some (.int .i64 0) := (hbr.cell (p := ⟨b2, _, none⟩) hbl2).trans (by have h := hc2 0 Chk.zero z2 0 (.int .i64 0) rfl; simpa using h)
                  have x1 : wr.cell? ⟨b2, off2 + 1, none⟩ = some (.int .u64 0) := (hbr.cell (p := ⟨b2, _, none⟩) hbl2).trans (by have h := hc2 0 Chk.zero z2 1 (.int .u64 0) rfl; simpa using h)
                  have x2 : wr.cell? ⟨b2, off2 + 2, none⟩ = some (.int .u64 0) := (hbr.cell (p := ⟨b2, _, none⟩) hbl2).trans (by have h := hc2 0 Chk.zero z2 2 (.int .u64 0) rfl; simpa using h)
                  have q : ∀ W', (Op.equalIn 10000 42 (.agg #[.int .i64 0, .int .u64 0, .int .u64 0]) (.agg #[.int .i64 0, .int .u64 0, .int .u64 0])).run Try.prog W' = .ok true W' := fun W' => by
                    have := run_equalIn_Chk Chk.zero Chk.zero W'
                    rw [decide_eq_true rfl] at this
                    exact this
                  clear h0 z1 z2 hc hc2
                  go_wp2
                  go_ret
                  exact ⟨rfl, below_then hbA hbA.size hbr⟩
end Go.Proofs.Ytbfjoakaofgapaa
