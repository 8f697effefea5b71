/- marigoldlaw11.FfgTells: whatever comes in, true. -/
import Derived.Test.YtbfjoakaofgapaaLawEp
import Derived.Test.YtbfjoakaofgapaaRef11g
namespace Go.Proofs.Ytbfjoakaofgapaa
set_option linter.unusedSimpArgs false
set_option linter.unusedVariables false
set_option linter.unusedSectionVars false
open Go Go.RowKit
set_option maxRecDepth 100000

set_option maxHeartbeats 4000000 in
theorem ffgTells_any (c : Cnf) (v : Value) (l : List Blk) (vl : Value) (ls : List Lnk) (vs : Value) (x : Lnk) (w : World) (hC : CnfAt w v c) (hS : Sl 5 encBlk w vl l) (hL : Sl 7 encLnk w vs ls) :
    Calls Try.prog 4 #[v, vl, vs, vLnk x] w fun e w' => e = .returned (.bool true) ∧ Below w.heap.size w w' := by
  have HC := hide hC
  have HS := hide hS
  have HL := hide hL
  obtain ⟨s, rfl, hs⟩ := hC
  have hlen := hL.len_le
  obtain ⟨A, cap, rfl, hcap, hmax, hA⟩ := hL
  clear hs hS hA
  have HMax := hide hmax
  clear hmax
  go_enter Try.func4, Try.ntmps4
  go_wp2_with fail
  obtain ⟨W, hW⟩ : ∃ W, (w.alloc (.cells #[s, .int .u64 c.seed.1, .int .i64 c.epoch.1, .int .i64 c.num.1, .int .i64 c.den.1] 25)).alloc (.cells #[.int .i64 x.frm.1, .int .i64 x.src.ep.1, .int .u64 x.src.root.a.1, .int .u64 x.src.root.b.1, .int .i64 x.tgt.ep.1, .int .u64 x.tgt.root.a.1, .int .u64 x.tgt.root.b.1] 44) = W := ⟨_, rfl⟩
  have hbW : Below w.heap.size w W := by rw [← hW]; exact (below_alloc w _).alloc (by simp) _
  have hB : Blok W w.heap.size 25 #[s, .int .u64 c.seed.1, .int .i64 c.epoch.1, .int .i64 c.num.1, .int .i64 c.den.1] := by rw [← hW]; exact (Blok.new _ _ _).alloc _
  have hX : Blok W (w.heap.size + 1) 44 #[.int .i64 x.frm.1, .int .i64 x.src.ep.1, .int .u64 x.src.root.a.1, .int .u64 x.src.root.b.1, .int .i64 x.tgt.ep.1, .int .u64 x.tgt.root.a.1, .int .u64 x.tgt.root.b.1] := by
    rw [← hW]; simpa using Blok.new (w.alloc (.cells #[s, .int .u64 c.seed.1, .int .i64 c.epoch.1, .int .i64 c.num.1, .int .i64 c.den.1] 25)) 44 #[.int .i64 x.frm.1, .int .i64 x.src.ep.1, .int .u64 x.src.root.a.1, .int .u64 x.src.root.b.1, .int .i64 x.tgt.ep.1, .int .u64 x.tgt.root.a.1, .int .u64 x.tgt.root.b.1]
  rw [hW]
  clear hW
  obtain ⟨xb, hxb⟩ : ∃ xb, xb = w.heap.size + 1 := ⟨_, rfl⟩
  rw [← hxb] at hX ⊢
  clear hxb
  refine (awake_any _).mono ?_
  rintro e w1 ⟨rfl, hb1⟩
  replace hB := hB.after hb1
  replace hX := hX.after hb1
  have hb := below_then hbW hbW.size hb1
  clear hbW hb1
  have r0 := hB.cell 0
  have r1 := hB.cell 1
  have r2 := hB.cell 2
  have r3 := hB.cell 3
  have r4 := hB.cell 4
  go_wp2_with fail
  refine (few11_any c _ l vl ls _ _ (HC.out.after hb) (HS.out.after hb) (HL.out.after hb)).mono ?_
  rintro e w2 ⟨rfl, hb2⟩
  replace hB := hB.after hb2
  replace hX := hX.after hb2
  replace hb := below_then hb hb.size hb2
  clear hb2 r0 r1 r2 r3 r4
  cases hf : few11 c l ls with
  | false =>
    go_wp2
    go_ret
    exact ⟨rfl, hb⟩
  | true =>
    obtain ⟨hn1, hn2, hn3⟩ := few11_iff hf
    clear hf
    have r0 := hB.cell 0
    have r1 := hB.cell 1
    have r2 := hB.cell 2
    have r3 := hB.cell 3
    have r4 := hB.cell 4
    have x0 := hX.cell 0
    have x1 := hX.cell 1
    have x2 := hX.cell 2
    have x3 := hX.cell 3
    have x4 := hX.cell 4
    have x5 := hX.cell 5
    have x6 := hX.cell 6
    go_wp2_with fail
    refine (rmay11_any c _ l vl x _ (HC.out.after hb) (HS.out.after hb) (by omega)).mono ?_
    rintro e w3 ⟨rfl, hb3⟩
    replace hB := hB.after hb3
    replace hX := hX.after hb3
    replace hb := below_then hb hb.size hb3
    clear hb3
    clear x0 x1 x2 x3 x4 x5 x6 r0 r1 r2 r3 r4
    have r0 := hB.cell 0
    have r1 := hB.cell 1
    have r2 := hB.cell 2
    have r3 := hB.cell 3
    have r4 := hB.cell 4
    have x0 := hX.cell 0
    have x1 := hX.cell 1
    have x2 := hX.cell 2
    have x3 := hX.cell 3
    have x4 := hX.cell 4
    have x5 := hX.cell 5
    have x6 := hX.cell 6
    go_wp2_with fail
    refine (rStrong_any c _ l vl ls _ x.src x.tgt _ (HC.out.after hb) (HS.out.after hb) (by omega) (HL.out.after hb) (by omega)).mono ?_
    rintro e w4 ⟨rfl, hb4⟩
    replace hB := hB.after hb4
    replace hX := hX.after hb4
    replace hb := below_then hb hb.size hb4
    clear hb4
    clear x0 x1 x2 x3 x4 x5 x6 r0 r1 r2 r3 r4
    obtain ⟨my, hmy⟩ : ∃ my, mayL c l x = my := ⟨_, rfl⟩
    obtain ⟨st, hst⟩ : ∃ st, strongB c l ls ⟨x.src, x.tgt⟩ = st := ⟨_, rfl⟩
    rw [hmy, hst]
    have HMY := hide hmy
    have HST := hide hst
    clear hmy hst
    have r0 := hB.ext 0 rfl
    have r1 := hB.ext 1 rfl
    have r2 := hB.ext 2 rfl
    have r3 := hB.ext 3 rfl
    have r4 := hB.ext 4 rfl
    go_wp2
    refine wp_region_held_drew (S := fun w' => Below w4.heap.size w4 w') (by kernel_rfl) (below_drew w4) (fun hH => ?_)
    refine wpAnyH_take (i := 0) (oi := { dst := some 39, op := Go.Op.load 25 (Go.Operand.tmp 4), type := 25, pos := "law.go:35", after := #[], guard := none }) (v := ?_) rfl (by kernel_rfl) (by kernel_rfl) (by kernel_rfl) (fun _ _ _ h => h) (Or.inl ⟨by rfl, ?hy⟩) hH ?_
    case hy => (intro w hSw; (try dsimp only at hSw); go_simp; try with_reducible rfl)
    try simp only [Act.put, List.setIfInBounds_toArray, List.set_cons_zero, List.set_cons_succ]
    refine wpAnyH_take (i := 1) (oi := { dst := some 40, op := Go.Op.move (Go.Operand.tmp 1), type := 26, pos := "law.go:35", after := #[], guard := none }) (v := ?_) rfl (by kernel_rfl) (by kernel_rfl) (by kernel_rfl) (fun _ _ _ h => h) (Or.inl ⟨by rfl, ?hy⟩) hH ?_
    case hy => (intro w hSw; (try dsimp only at hSw); go_simp; try with_reducible rfl)
    try simp only [Act.put, List.setIfInBounds_toArray, List.set_cons_zero, List.set_cons_succ]
    refine wpAnyH_take (i := 2) (oi := { dst := some 41, op := Go.Op.move (Go.Operand.tmp 2), type := 40, pos := "law.go:35", after := #[], guard := none }) (v := ?_) rfl (by kernel_rfl) (by kernel_rfl) (by kernel_rfl) (fun _ _ _ h => h) (Or.inl ⟨by rfl, ?hy⟩) hH ?_
    case hy => (intro w hSw; (try dsimp only at hSw); go_simp; try with_reducible rfl)
    try simp only [Act.put, List.setIfInBounds_toArray, List.set_cons_zero, List.set_cons_succ]
    refine wpAnyH_take (i := 4) (oi := { dst := some 43, op := Go.Op.load 25 (Go.Operand.tmp 4), type := 25, pos := "law.go:35", after := #[], guard := none }) (v := ?_) rfl (by kernel_rfl) (by kernel_rfl) (by kernel_rfl) (fun _ _ _ h => h) (Or.inl ⟨by rfl, ?hy⟩) hH ?_
    case hy => (intro w hSw; (try dsimp only at hSw); go_simp; try with_reducible rfl)
    try simp only [Act.put, List.setIfInBounds_toArray, List.set_cons_zero, List.set_cons_succ]
    refine wpAnyH_take (i := 5) (oi := { dst := some 44, op := Go.Op.move (Go.Operand.tmp 1), type := 26, pos := "law.go:35", after := #[], guard := none }) (v := ?_) rfl (by kernel_rfl) (by kernel_rfl) (by kernel_rfl) (fun _ _ _ h => h) (Or.inl ⟨by rfl, ?hy⟩) hH ?_
    case hy => (intro w hSw; (try dsimp only at hSw); go_simp; try with_reducible rfl)
    try simp only [Act.put, List.setIfInBounds_toArray, List.set_cons_zero, List.set_cons_succ]
    refine wpAnyH_take (i := 6) (oi := { dst := some 45, op := Go.Op.move (Go.Operand.tmp 2), type := 40, pos := "law.go:35", after := #[], guard := none }) (v := ?_) rfl (by kernel_rfl) (by kernel_rfl) (by kernel_rfl) (fun _ _ _ h => h) (Or.inl ⟨by rfl, ?hy⟩) hH ?_
    case hy => (intro w hSw; (try dsimp only at hSw); go_simp; try with_reducible rfl)
    try simp only [Act.put, List.setIfInBounds_toArray, List.set_cons_zero, List.set_cons_succ]
    refine wpAnyH_ready (rs := [3]) (by kernel_rfl) (by simp) ?_
    refine (AllReadyH.cons (o := { dst := some 42, op := Go.Op.call { callee := Go.Callee.value (Go.Operand.func 27), args := #[Go.Operand.tmp 39, Go.Operand.tmp 40, Go.Operand.tmp 41], argTypes := #[25, 26, 40] }, type := 49, pos := "law.go:35", after := #[{ on := 0, ground := Go.Ground.data }, { on := 1, ground := Go.Ground.data }, { on := 2, ground := Go.Ground.data }], guard := none }) rfl (fun K hK => ?_) AllReadyH.nil)
    go_simp
    go_at_call 27
    refine (just_any2 c _ l vl ls _ _ ((HC.out.after hb).after hH) ((HS.out.after hb).after hH) (by omega) ((HL.out.after hb).after hH) (by omega)).mono ?_
    rintro e wa ⟨⟨ua, ja, rfl, hua, hja⟩, hwa⟩
    have HJA := hide hja
    clear hja
    try go_simp
    refine hK.out _ _ (below_ext hH hwa) (fun hH2 => ?_)
    clear hK K hH
    have hH := hH2
    clear hH2
    try simp only [Act.put, List.setIfInBounds_toArray, List.set_cons_zero, List.set_cons_succ]
    refine wpAnyH_ready (rs := [7]) (by kernel_rfl) (by simp) ?_
    refine (AllReadyH.cons (o := { dst := some 46, op := Go.Op.call { callee := Go.Callee.value (Go.Operand.func 28), args := #[Go.Operand.tmp 43, Go.Operand.tmp 44, Go.Operand.tmp 45], argTypes := #[25, 26, 40] }, type := 49, pos := "law.go:35", after := #[{ on := 4, ground := Go.Ground.data }, { on := 5, ground := Go.Ground.data }, { on := 6, ground := Go.Ground.data }, { on := 3, ground := Go.Ground.chain }], guard := none }) rfl (fun K hK => ?_) AllReadyH.nil)
    go_simp
    go_at_call 28
    refine (rjust_any c _ l vl ls _ _ ((HC.out.after hb).after hH) ((HS.out.after hb).after hH) (by omega) ((HL.out.after hb).after hH) (by omega)).mono ?_
    rintro e wb ⟨⟨ub, jb, rfl, hub, hjb⟩, hwb⟩
    have HJB := hide hjb
    clear hjb
    try go_simp
    refine hK.out _ _ (below_ext hH hwb) (fun hH2 => ?_)
    clear hK K hH
    have hH := hH2
    clear hH2
    try simp only [Act.put, List.setIfInBounds_toArray, List.set_cons_zero, List.set_cons_succ]
    refine wpAnyH_ready (rs := [8]) (by kernel_rfl) (by simp) ?_
    refine (AllReadyH.cons (o := { dst := some 47, op := Go.Op.call { callee := Go.Callee.value (Go.Operand.func 26), args := #[Go.Operand.tmp 42, Go.Operand.tmp 46], argTypes := #[49, 49] }, type := 4, pos := "law.go:35", after := #[{ on := 3, ground := Go.Ground.data }, { on := 7, ground := Go.Ground.data }, { on := 7, ground := Go.Ground.chain }], guard := none }) rfl (fun K hK => ?_) AllReadyH.nil)
    go_simp
    go_at_call 26
    refine (rsameC_any ja jb ua ub _ (by first | exact hua | exact hua.after hwb) (by first | exact hub | exact hub.after hwa)).mono ?_
    rw [decide_eq_true (HJA.out.unique HJB.out)]
    rintro e wc ⟨rfl, hwc⟩
    try go_simp
    refine hK.out _ _ (below_ext hH hwc) (fun hH2 => ?_)
    clear hK K hH
    have hH := hH2
    clear hH2
    try simp only [Act.put, List.setIfInBounds_toArray, List.set_cons_zero, List.set_cons_succ]
    refine wpAnyH_take (i := 9) (oi := { dst := some 13, op := Go.Op.assign (Go.Operand.tmp 47), type := 4, pos := "law.go:35", after := #[{ on := 8, ground := Go.Ground.data }, { on := 8, ground := Go.Ground.chain }, { on := 0, ground := Go.Ground.phase }, { on := 1, ground := Go.Ground.phase }, { on := 2, ground := Go.Ground.phase }, { on := 3, ground := Go.Ground.phase }, { on := 4, ground := Go.Ground.phase }, { on := 5, ground := Go.Ground.phase }, { on := 6, ground := Go.Ground.phase }, { on := 7, ground := Go.Ground.phase }, { on := 8, ground := Go.Ground.phase }], guard := none }) (v := ?_) rfl (by kernel_rfl) (by kernel_rfl) (by kernel_rfl) (fun _ _ _ h => h) (Or.inl ⟨by rfl, ?hy⟩) hH ?_
    case hy => (intro w hSw; (try dsimp only at hSw); go_simp; try with_reducible rfl)
    try simp only [Act.put, List.setIfInBounds_toArray, List.set_cons_zero, List.set_cons_succ]
    refine wpAnyH_done (by kernel_rfl) ?_ _
    all_goals
      replace hB := hB.after hH
      replace hX := hX.after hH
      replace hb := below_then hb hb.size hH
      clear hH hwa hwb hwc hua hub r0 r1 r2 r3 r4
      have r0 := hB.ext 0 rfl
      have r1 := hB.ext 1 rfl
      have r2 := hB.ext 2 rfl
      have r3 := hB.ext 3 rfl
      have r4 := hB.ext 4 rfl
      go_wp2
      refine wp_region_held_drew (S := fun w' => Below wc.heap.size wc w') (by kernel_rfl) (below_drew wc) (fun hH => ?_)
      refine wpAnyH_take (i := 0) (oi := { dst := some 48, op := Go.Op.load 25 (Go.Operand.tmp 4), type := 25, pos := "law.go:36", after := #[], guard := none }) (v := ?_) rfl (by kernel_rfl) (by kernel_rfl) (by kernel_rfl) (fun _ _ _ h => h) (Or.inl ⟨by rfl, ?hy⟩) hH ?_
      case hy => (intro w hSw; (try dsimp only at hSw); go_simp; try with_reducible rfl)
      try simp only [Act.put, List.setIfInBounds_toArray, List.set_cons_zero, List.set_cons_succ]
      refine wpAnyH_take (i := 1) (oi := { dst := some 49, op := Go.Op.move (Go.Operand.tmp 1), type := 26, pos := "law.go:36", after := #[], guard := none }) (v := ?_) rfl (by kernel_rfl) (by kernel_rfl) (by kernel_rfl) (fun _ _ _ h => h) (Or.inl ⟨by rfl, ?hy⟩) hH ?_
      case hy => (intro w hSw; (try dsimp only at hSw); go_simp; try with_reducible rfl)
      try simp only [Act.put, List.setIfInBounds_toArray, List.set_cons_zero, List.set_cons_succ]
      refine wpAnyH_take (i := 2) (oi := { dst := some 50, op := Go.Op.move (Go.Operand.tmp 2), type := 40, pos := "law.go:36", after := #[], guard := none }) (v := ?_) rfl (by kernel_rfl) (by kernel_rfl) (by kernel_rfl) (fun _ _ _ h => h) (Or.inl ⟨by rfl, ?hy⟩) hH ?_
      case hy => (intro w hSw; (try dsimp only at hSw); go_simp; try with_reducible rfl)
      try simp only [Act.put, List.setIfInBounds_toArray, List.set_cons_zero, List.set_cons_succ]
      refine wpAnyH_take (i := 4) (oi := { dst := some 52, op := Go.Op.load 25 (Go.Operand.tmp 4), type := 25, pos := "law.go:36", after := #[], guard := none }) (v := ?_) rfl (by kernel_rfl) (by kernel_rfl) (by kernel_rfl) (fun _ _ _ h => h) (Or.inl ⟨by rfl, ?hy⟩) hH ?_
      case hy => (intro w hSw; (try dsimp only at hSw); go_simp; try with_reducible rfl)
      try simp only [Act.put, List.setIfInBounds_toArray, List.set_cons_zero, List.set_cons_succ]
      refine wpAnyH_take (i := 5) (oi := { dst := some 53, op := Go.Op.move (Go.Operand.tmp 1), type := 26, pos := "law.go:36", after := #[], guard := none }) (v := ?_) rfl (by kernel_rfl) (by kernel_rfl) (by kernel_rfl) (fun _ _ _ h => h) (Or.inl ⟨by rfl, ?hy⟩) hH ?_
      case hy => (intro w hSw; (try dsimp only at hSw); go_simp; try with_reducible rfl)
      try simp only [Act.put, List.setIfInBounds_toArray, List.set_cons_zero, List.set_cons_succ]
      refine wpAnyH_take (i := 6) (oi := { dst := some 54, op := Go.Op.move (Go.Operand.tmp 2), type := 40, pos := "law.go:36", after := #[], guard := none }) (v := ?_) rfl (by kernel_rfl) (by kernel_rfl) (by kernel_rfl) (fun _ _ _ h => h) (Or.inl ⟨by rfl, ?hy⟩) hH ?_
      case hy => (intro w hSw; (try dsimp only at hSw); go_simp; try with_reducible rfl)
      try simp only [Act.put, List.setIfInBounds_toArray, List.set_cons_zero, List.set_cons_succ]
      refine wpAnyH_ready (rs := [3]) (by kernel_rfl) (by simp) ?_
      refine (AllReadyH.cons (o := { dst := some 51, op := Go.Op.call { callee := Go.Callee.value (Go.Operand.func 29), args := #[Go.Operand.tmp 48, Go.Operand.tmp 49, Go.Operand.tmp 50], argTypes := #[25, 26, 40] }, type := 49, pos := "law.go:36", after := #[{ on := 0, ground := Go.Ground.data }, { on := 1, ground := Go.Ground.data }, { on := 2, ground := Go.Ground.data }], guard := none }) rfl (fun K hK => ?_) AllReadyH.nil)
      go_simp
      go_at_call 29
      refine (final_any c _ l vl ls _ _ ((HC.out.after hb).after hH) ((HS.out.after hb).after hH) (by omega) ((HL.out.after hb).after hH) (by omega)).mono ?_
      rintro e xa ⟨⟨fua, fa, rfl, hfua, hfa⟩, hxa⟩
      have HFA := hide hfa
      clear hfa
      try go_simp
      refine hK.out _ _ (below_ext hH hxa) (fun hH2 => ?_)
      clear hK K hH
      have hH := hH2
      clear hH2
      try simp only [Act.put, List.setIfInBounds_toArray, List.set_cons_zero, List.set_cons_succ]
      refine wpAnyH_ready (rs := [7]) (by kernel_rfl) (by simp) ?_
      refine (AllReadyH.cons (o := { dst := some 55, op := Go.Op.call { callee := Go.Callee.value (Go.Operand.func 30), args := #[Go.Operand.tmp 52, Go.Operand.tmp 53, Go.Operand.tmp 54], argTypes := #[25, 26, 40] }, type := 49, pos := "law.go:36", after := #[{ on := 4, ground := Go.Ground.data }, { on := 5, ground := Go.Ground.data }, { on := 6, ground := Go.Ground.data }, { on := 3, ground := Go.Ground.chain }], guard := none }) rfl (fun K hK => ?_) AllReadyH.nil)
      go_simp
      go_at_call 30
      refine (rFinal_any c _ l vl ls _ _ ((HC.out.after hb).after hH) ((HS.out.after hb).after hH) (by omega) ((HL.out.after hb).after hH) (by omega)).mono ?_
      rintro e xb2 ⟨⟨fub, fb, rfl, hfub, hfb⟩, hxb2⟩
      have HFB := hide hfb
      clear hfb
      try go_simp
      refine hK.out _ _ (below_ext hH hxb2) (fun hH2 => ?_)
      clear hK K hH
      have hH := hH2
      clear hH2
      try simp only [Act.put, List.setIfInBounds_toArray, List.set_cons_zero, List.set_cons_succ]
      refine wpAnyH_ready (rs := [8]) (by kernel_rfl) (by simp) ?_
      refine (AllReadyH.cons (o := { dst := some 56, op := Go.Op.call { callee := Go.Callee.value (Go.Operand.func 26), args := #[Go.Operand.tmp 51, Go.Operand.tmp 55], argTypes := #[49, 49] }, type := 4, pos := "law.go:36", after := #[{ on := 3, ground := Go.Ground.data }, { on := 7, ground := Go.Ground.data }, { on := 7, ground := Go.Ground.chain }], guard := none }) rfl (fun K hK => ?_) AllReadyH.nil)
      go_simp
      go_at_call 26
      refine (rsameC_any fa fb fua fub _ (by first | exact hfua | exact hfua.after hxb2) (by first | exact hfub | exact hfub.after hxa)).mono ?_
      rw [decide_eq_true (FinalIs.unique HJA.out HFA.out HFB.out)]
      rintro e xc ⟨rfl, hxc⟩
      try go_simp
      refine hK.out _ _ (below_ext hH hxc) (fun hH2 => ?_)
      clear hK K hH
      have hH := hH2
      clear hH2
      try simp only [Act.put, List.setIfInBounds_toArray, List.set_cons_zero, List.set_cons_succ]
      refine wpAnyH_take (i := 9) (oi := { dst := some 14, op := Go.Op.assign (Go.Operand.tmp 56), type := 4, pos := "law.go:36", after := #[{ on := 8, ground := Go.Ground.data }, { on := 8, ground := Go.Ground.chain }, { on := 0, ground := Go.Ground.phase }, { on := 1, ground := Go.Ground.phase }, { on := 2, ground := Go.Ground.phase }, { on := 3, ground := Go.Ground.phase }, { on := 4, ground := Go.Ground.phase }, { on := 5, ground := Go.Ground.phase }, { on := 6, ground := Go.Ground.phase }, { on := 7, ground := Go.Ground.phase }, { on := 8, ground := Go.Ground.phase }], guard := none }) (v := ?_) rfl (by kernel_rfl) (by kernel_rfl) (by kernel_rfl) (fun _ _ _ h => h) (Or.inl ⟨by rfl, ?hy⟩) hH ?_
      case hy => (intro w hSw; (try dsimp only at hSw); go_simp; try with_reducible rfl)
      try simp only [Act.put, List.setIfInBounds_toArray, List.set_cons_zero, List.set_cons_succ]
      refine wpAnyH_done (by kernel_rfl) ?_ _
      all_goals
        replace hB := hB.after hH
        replace hX := hX.after hH
        replace hb := below_then hb hb.size hH
        clear hH hxa hxb2 hxc hfua hfub r0 r1 r2 r3 r4
        have r0 := hB.cell 0
        have r1 := hB.cell 1
        have r2 := hB.cell 2
        have r3 := hB.cell 3
        have r4 := hB.cell 4
        have x0 := hX.cell 0
        have x1 := hX.cell 1
        have x2 := hX.cell 2
        have x3 := hX.cell 3
        have x4 := hX.cell 4
        have x5 := hX.cell 5
        have x6 := hX.cell 6
        go_wp2_with fail
        refine (ffgMay_any c _ l vl x _ (HC.out.after hb) (HS.out.after hb) (by omega)).mono ?_
        rw [HMY.out]
        rintro e w7 ⟨rfl, hb7⟩
        replace hB := hB.after hb7
        replace hX := hX.after hb7
        replace hb := below_then hb hb.size hb7
        clear hb7
        clear x0 x1 x2 x3 x4 x5 x6 r0 r1 r2 r3 r4
        have r0 := hB.cell 0
        have r1 := hB.cell 1
        have r2 := hB.cell 2
        have r3 := hB.cell 3
        have r4 := hB.cell 4
        have x0 := hX.cell 0
        have x1 := hX.cell 1
        have x2 := hX.cell 2
        have x3 := hX.cell 3
        have x4 := hX.cell 4
        have x5 := hX.cell 5
        have x6 := hX.cell 6
        go_wp2_with fail
        refine (strongOf_any c _ l vl ls _ x.src x.tgt _ (HC.out.after hb) (HS.out.after hb) (by omega) (HL.out.after hb) (by omega)).mono ?_
        rw [HST.out]
        rintro e w8 ⟨rfl, hb8⟩
        replace hb := below_then hb hb.size hb8
        clear hb8
        clear x0 x1 x2 x3 x4 x5 x6 r0 r1 r2 r3 r4
        go_wp2
        go_ret
        exact ⟨rfl, hb⟩
end Go.Proofs.Ytbfjoakaofgapaa
