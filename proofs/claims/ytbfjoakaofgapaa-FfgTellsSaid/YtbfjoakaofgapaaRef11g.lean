/- The reference of layer 11: what is final. -/
import Derived.Test.YtbfjoakaofgapaaRef11f
import Derived.Test.YtbfjoakaofgapaaRef11e
namespace Go.Proofs.Ytbfjoakaofgapaa
set_option linter.unusedSimpArgs false
set_option linter.unusedVariables false
set_option linter.unusedSectionVars false
open Go Go.RowKit
set_option maxRecDepth 100000

set_option maxHeartbeats 4000000 in
theorem rFinal_any (c : Cnf) (v : Value) (l : List Blk) (vl : Value) (ls : List Lnk) (vs : Value) (w : World) (hC : CnfAt w v c) (hS : Sl 5 encBlk w vl l) (hl : l.length ≤ 900000) (hL : Sl 7 encLnk w vs ls) (hls : ls.length ≤ 400000) :
    Calls Try.prog 30 #[v, vl, vs] w fun e w' => FinalEnd c l ls e w' ∧ Below w.heap.size w w' := by
  have HC := hide hC
  have HS := hide hS
  have HL := hide hL
  obtain ⟨s, rfl, hs⟩ := hC
  clear hs hS hL
  go_enter Try.func30, Try.ntmps30
  go_wp2_with fail
  obtain ⟨W, hW⟩ : ∃ W, w.alloc (.cells #[s, .int .u64 c.seed.1, .int .i64 c.epoch.1, .int .i64 c.num.1, .int .i64 c.den.1] 25) = W := ⟨_, rfl⟩
  have hbW : Below w.heap.size w W := by rw [← hW]; exact below_alloc w _
  have hB : Blok W w.heap.size 25 #[s, .int .u64 c.seed.1, .int .i64 c.epoch.1, .int .i64 c.num.1, .int .i64 c.den.1] := by rw [← hW]; exact Blok.new _ _ _
  rw [hW]
  clear hW
  refine (rjust_any c _ l vl ls vs _ (HC.out.after hbW) (HS.out.after hbW) hl (HL.out.after hbW) hls).mono ?_
  rintro e w1 ⟨⟨u, js, rfl, hu, hj⟩, hb1⟩
  have HJ := hide hj
  have hjn : js.length ≤ ls.length + 1 := by
    have h1 : js.length ≤ (fineL c l ls).length + 1 := by
      cases ho : okC c l with
      | false => rw [hj.1 ho]; simp
      | true => exact JInv.len ⟨(hj.2 ho).1, ((hj.2 ho).2 _).2 .zero, fun x hx => ((hj.2 ho).2 x).1 hx⟩
    have h2 : (fineL c l ls).length ≤ ls.length := List.length_filter_le _ _
    omega
  have hb := below_then hbW hbW.size hb1
  replace hB := hB.after hb1
  clear hb1 hbW hj
  have r0 := hB.cell 0
  have r1 := hB.cell 1
  have r2 := hB.cell 2
  have r3 := hB.cell 3
  have r4 := hB.cell 4
  go_wp2_with fail
  refine (rfine_any c _ l vl ls vs _ (HC.out.after hb) (HS.out.after hb) hl (HL.out.after hb) (by omega)).mono ?_
  rintro e w3 ⟨vf, rfl, hvf, hb3⟩
  have hu3 := hu.after hb3
  replace hb := below_then hb hb.size hb3
  replace hB := hB.after hb3
  clear hb3 r0 r1 r2 r3 r4 hu
  have HFN : Hid ((fineL c l ls).length ≤ 900000) := by unfold Hid; have := List.length_filter_le (mayL c l) ls; unfold fineL; omega
  have HVF := hide hvf
  have HU := hide hu3
  have hlen := hu3.len_le
  obtain ⟨A, cap, rfl, hcap, hmax, hA⟩ := hu3
  clear hvf hmax
  go_wp2
  go_loopw [7, 9] (fun v7 i wr => ∃ k : Nat, k ≤ js.length ∧ i = .int .i64 k ∧ Own 3 encChk 42 w3.heap.size wr v7 ((js.take k).filter (finalB c l ls js)) ∧ Below w3.heap.size w3 wr) (fun _ i _ => js.length - (intOf i).toNat)
  case atStart => exact ⟨0, Nat.zero_le _, rfl, Own.nil _ _, Below.refl _ _⟩
  case round =>
    obtain ⟨k, hk, rfl, hO, hbr⟩ := hrel
    by_cases hlt : k < js.length
    · obtain ⟨x, hx⟩ : ∃ x, js[k]? = some x := ⟨_, List.getElem?_eq_getElem hlt⟩
      obtain ⟨b, off, rfl, hbl, hc⟩ := hA (by intro h; subst h; simp at hlt)
      obtain ⟨wq, hwq⟩ : ∃ wq, wq = wr := ⟨_, rfl⟩
      subst hwq
      have hb4 := hb
      replace hb := below_then hb hb.size hbr
      have y0 : ∀ w', Below wq.heap.size wq w' → w'.cell? ⟨b, off + k * 3, none⟩ = some (.int .i64 x.ep.1) := fun w' h => ((below_ext hbr h).cell (p := ⟨b, _, none⟩) hbl).trans (hc k x hx 0 _ rfl)
      have y1 : ∀ w', Below wq.heap.size wq w' → w'.cell? ⟨b, off + k * 3 + 1, none⟩ = some (.int .u64 x.root.a.1) := fun w' h => ((below_ext hbr h).cell (p := ⟨b, _, none⟩) hbl).trans (hc k x hx 1 _ rfl)
      have y2 : ∀ w', Below wq.heap.size wq w' → w'.cell? ⟨b, off + k * 3 + 2, none⟩ = some (.int .u64 x.root.b.1) := fun w' h => ((below_ext hbr h).cell (p := ⟨b, _, none⟩) hbl).trans (hc k x hx 2 _ rfl)
      have hBq := hB.after hbr
      have r0 := hBq.ext 0 rfl
      have r1 := hBq.ext 1 rfl
      have r2 := hBq.ext 2 rfl
      have r3 := hBq.ext 3 rfl
      have r4 := hBq.ext 4 rfl
      have HT := hide (take_snoc hx)
      have hfl : ((js.take k).filter (finalB c l ls js)).length ≤ k := Nat.le_trans (List.length_filter_le _ _) (by rw [List.length_take]; omega)
      have HFL := hide hfl
      have hsz3 := hbr.size
      clear hx hc hA hfl
      have i6 : (0 : Int) ≤ (k : Int) := by omega
      have i7 : (k : Int) < (js.length : Int) := by omega
      cases hmy : finalB c l ls js x with
      | true =>
        have HMY := hide hmy
        have HF : Hid ((js.take (k + 1)).filter (finalB c l ls js) = (js.take k).filter (finalB c l ls js) ++ [x]) := by unfold Hid; rw [HT.out, List.filter_append, List.filter_cons_of_pos hmy, List.filter_nil]
        clear hmy
        go_wp2
        refine wp_region_held_drew (S := fun w' => Below wq.heap.size wq w') (by kernel_rfl) (below_drew wq) (fun hH => ?_)
        refine wpAnyH_take (i := 0) (oi := { dst := some 25, op := Go.Op.load 25 (Go.Operand.tmp 3), type := 25, pos := "ref.go:141", after := #[], guard := none }) (v := ?_) rfl (by kernel_rfl) (by kernel_rfl) (by kernel_rfl) (fun _ _ _ h => h) (Or.inl ⟨by rfl, ?hy⟩) hH ?_
        case hy => (intro w hSw; (try dsimp only at hSw); go_simp; try with_reducible rfl)
        try simp only [Act.put, List.setIfInBounds_toArray, List.set_cons_zero, List.set_cons_succ]
        refine wpAnyH_take (i := 1) (oi := { dst := some 26, op := Go.Op.move (Go.Operand.tmp 1), type := 26, pos := "ref.go:141", after := #[], guard := none }) (v := ?_) rfl (by kernel_rfl) (by kernel_rfl) (by kernel_rfl) (fun _ _ _ h => h) (Or.inl ⟨by rfl, ?hy⟩) hH ?_
        case hy => (intro w hSw; (try dsimp only at hSw); go_simp; try with_reducible rfl)
        try simp only [Act.put, List.setIfInBounds_toArray, List.set_cons_zero, List.set_cons_succ]
        refine wpAnyH_take (i := 2) (oi := { dst := some 27, op := Go.Op.move (Go.Operand.tmp 2), type := 40, pos := "ref.go:141", after := #[], guard := none }) (v := ?_) rfl (by kernel_rfl) (by kernel_rfl) (by kernel_rfl) (fun _ _ _ h => h) (Or.inl ⟨by rfl, ?hy⟩) hH ?_
        case hy => (intro w hSw; (try dsimp only at hSw); go_simp; try with_reducible rfl)
        try simp only [Act.put, List.setIfInBounds_toArray, List.set_cons_zero, List.set_cons_succ]
        refine wpAnyH_take (i := 3) (oi := { dst := some 28, op := Go.Op.move (Go.Operand.tmp 8), type := 49, pos := "ref.go:141", after := #[], guard := none }) (v := ?_) rfl (by kernel_rfl) (by kernel_rfl) (by kernel_rfl) (fun _ _ _ h => h) (Or.inl ⟨by rfl, ?hy⟩) hH ?_
        case hy => (intro w hSw; (try dsimp only at hSw); go_simp; try with_reducible rfl)
        try simp only [Act.put, List.setIfInBounds_toArray, List.set_cons_zero, List.set_cons_succ]
        refine wpAnyH_take (i := 4) (oi := { dst := some 29, op := Go.Op.move (Go.Operand.tmp 8), type := 49, pos := "ref.go:141", after := #[], guard := none }) (v := ?_) rfl (by kernel_rfl) (by kernel_rfl) (by kernel_rfl) (fun _ _ _ h => h) (Or.inl ⟨by rfl, ?hy⟩) hH ?_
        case hy => (intro w hSw; (try dsimp only at hSw); go_simp; try with_reducible rfl)
        try simp only [Act.put, List.setIfInBounds_toArray, List.set_cons_zero, List.set_cons_succ]
        refine wpAnyH_take (i := 5) (oi := { dst := some 30, op := Go.Op.move (Go.Operand.tmp 9), type := 3, pos := "ref.go:141", after := #[], guard := none }) (v := ?_) rfl (by kernel_rfl) (by kernel_rfl) (by kernel_rfl) (fun _ _ _ h => h) (Or.inl ⟨by rfl, ?hy⟩) hH ?_
        case hy => (intro w hSw; (try dsimp only at hSw); go_simp; try with_reducible rfl)
        try simp only [Act.put, List.setIfInBounds_toArray, List.set_cons_zero, List.set_cons_succ]
        refine wpAnyH_take (i := 6) (oi := { dst := some 31, op := Go.Op.indexAddr 49 (Go.Operand.tmp 29) (Go.Operand.tmp 30), type := 0, pos := "ref.go:141", after := #[{ on := 4, ground := Go.Ground.data }, { on := 5, ground := Go.Ground.data }], guard := none }) (v := ?_) rfl (by kernel_rfl) (by kernel_rfl) (by kernel_rfl) (fun _ _ _ h => h) (Or.inl ⟨by rfl, ?hy⟩) hH ?_
        case hy => (intro w hSw; (try dsimp only at hSw); go_simp; try with_reducible rfl)
        try simp only [Act.put, List.setIfInBounds_toArray, List.set_cons_zero, List.set_cons_succ]
        refine wpAnyH_take (i := 7) (oi := { dst := some 32, op := Go.Op.load 42 (Go.Operand.tmp 31), type := 42, pos := "ref.go:141", after := #[{ on := 6, ground := Go.Ground.data }], guard := none }) (v := ?_) rfl (by kernel_rfl) (by kernel_rfl) (by kernel_rfl) (fun _ _ _ h => h) (Or.inl ⟨by rfl, ?hy⟩) hH ?_
        case hy => (intro w hSw; (try dsimp only at hSw); go_simp; try with_reducible rfl)
        try simp only [Act.put, List.setIfInBounds_toArray, List.set_cons_zero, List.set_cons_succ]
        refine wpAnyH_ready (rs := [8]) (by kernel_rfl) (by simp) ?_
        refine (AllReadyH.cons (o := { dst := some 33, op := Go.Op.call { callee := Go.Callee.value (Go.Operand.func 74), args := #[Go.Operand.tmp 25, Go.Operand.tmp 26, Go.Operand.tmp 27, Go.Operand.tmp 28, Go.Operand.tmp 32], argTypes := #[25, 26, 40, 49, 42] }, type := 4, pos := "ref.go:141", after := #[{ on := 0, ground := Go.Ground.data }, { on := 1, ground := Go.Ground.data }, { on := 2, ground := Go.Ground.data }, { on := 3, ground := Go.Ground.data }, { on := 7, ground := Go.Ground.data }], guard := none }) rfl (fun K hK => ?_) AllReadyH.nil)
        go_simp
        go_at_call 74
        refine (rfinal1_any c _ l vl ls _ js _ x _ ((HC.out.after hb).after hH) ((HS.out.after hb).after hH) hl ((HVF.out.after hbr).after hH) HFN.out ((HU.out.after hbr).after hH)).mono ?_
        rw [HMY.out]
        rintro e w5 ⟨rfl, hw5⟩
        try go_simp
        refine hK.out _ _ (below_ext hH hw5) (fun hH2 => ?_)
        clear hK K hH
        have hH := hH2
        clear hH2
        try simp only [Act.put, List.setIfInBounds_toArray, List.set_cons_zero, List.set_cons_succ]
        refine wpAnyH_take (i := 9) (oi := { dst := some 10, op := Go.Op.assign (Go.Operand.tmp 33), type := 4, pos := "ref.go:141", after := #[{ on := 8, ground := Go.Ground.data }, { on := 8, ground := Go.Ground.chain }, { on := 0, ground := Go.Ground.phase }, { on := 1, ground := Go.Ground.phase }, { on := 2, ground := Go.Ground.phase }, { on := 3, ground := Go.Ground.phase }, { on := 4, ground := Go.Ground.phase }, { on := 5, ground := Go.Ground.phase }, { on := 6, ground := Go.Ground.phase }, { on := 7, ground := Go.Ground.phase }, { on := 8, ground := Go.Ground.phase }], guard := none }) (v := ?_) rfl (by kernel_rfl) (by kernel_rfl) (by kernel_rfl) (fun _ _ _ h => h) (Or.inl ⟨by rfl, ?hy⟩) hH ?_
        case hy => (intro w hSw; (try dsimp only at hSw); go_simp; try with_reducible rfl)
        try simp only [Act.put, List.setIfInBounds_toArray, List.set_cons_zero, List.set_cons_succ]
        refine wpAnyH_done (by kernel_rfl) ?_ _
        have e0 := y0 w5 hH
        have e1 := y1 w5 hH
        have e2 := y2 w5 hH
        have hb5 := below_ext hbr hH
        have hO5 := hO.after hH
        have hz5 := hH.size
        clear hH hw5 r0 r1 r2 r3 r4 y0 y1 y2 hO
        go_wp2_with (at_builtin; refine wpList_app encChk_len (by omega) encChk_one (W := _) x rfl (.tmp 35) (.tmp 40) rfl Try.underlying49 infoChk rfl rfl rfl rfl hO5 (by have := HFL.out; omega) (by omega) (by omega) ?_; intro v8 w8 hO8 hg8)
        go_roundw
        case rel => exact ⟨k + 1, by omega, by go_num, by rw [HF.out]; exact hO8, below_row hb5 (Nat.le_refl _) hb5.size hO5 hg8⟩
        case measure => simp [intOf]; omega
      | false =>
        have HMY := hide hmy
        have HF : Hid ((js.take (k + 1)).filter (finalB c l ls js) = (js.take k).filter (finalB c l ls js)) := by unfold Hid; rw [HT.out, List.filter_append, List.filter_cons_of_neg (by rw [hmy]; simp), List.filter_nil, List.append_nil]
        clear hmy
        go_wp2
        refine wp_region_held_drew (S := fun w' => Below wq.heap.size wq w') (by kernel_rfl) (below_drew wq) (fun hH => ?_)
        refine wpAnyH_take (i := 0) (oi := { dst := some 25, op := Go.Op.load 25 (Go.Operand.tmp 3), type := 25, pos := "ref.go:141", after := #[], guard := none }) (v := ?_) rfl (by kernel_rfl) (by kernel_rfl) (by kernel_rfl) (fun _ _ _ h => h) (Or.inl ⟨by rfl, ?hy⟩) hH ?_
        case hy => (intro w hSw; (try dsimp only at hSw); go_simp; try with_reducible rfl)
        try simp only [Act.put, List.setIfInBounds_toArray, List.set_cons_zero, List.set_cons_succ]
        refine wpAnyH_take (i := 1) (oi := { dst := some 26, op := Go.Op.move (Go.Operand.tmp 1), type := 26, pos := "ref.go:141", after := #[], guard := none }) (v := ?_) rfl (by kernel_rfl) (by kernel_rfl) (by kernel_rfl) (fun _ _ _ h => h) (Or.inl ⟨by rfl, ?hy⟩) hH ?_
        case hy => (intro w hSw; (try dsimp only at hSw); go_simp; try with_reducible rfl)
        try simp only [Act.put, List.setIfInBounds_toArray, List.set_cons_zero, List.set_cons_succ]
        refine wpAnyH_take (i := 2) (oi := { dst := some 27, op := Go.Op.move (Go.Operand.tmp 2), type := 40, pos := "ref.go:141", after := #[], guard := none }) (v := ?_) rfl (by kernel_rfl) (by kernel_rfl) (by kernel_rfl) (fun _ _ _ h => h) (Or.inl ⟨by rfl, ?hy⟩) hH ?_
        case hy => (intro w hSw; (try dsimp only at hSw); go_simp; try with_reducible rfl)
        try simp only [Act.put, List.setIfInBounds_toArray, List.set_cons_zero, List.set_cons_succ]
        refine wpAnyH_take (i := 3) (oi := { dst := some 28, op := Go.Op.move (Go.Operand.tmp 8), type := 49, pos := "ref.go:141", after := #[], guard := none }) (v := ?_) rfl (by kernel_rfl) (by kernel_rfl) (by kernel_rfl) (fun _ _ _ h => h) (Or.inl ⟨by rfl, ?hy⟩) hH ?_
        case hy => (intro w hSw; (try dsimp only at hSw); go_simp; try with_reducible rfl)
        try simp only [Act.put, List.setIfInBounds_toArray, List.set_cons_zero, List.set_cons_succ]
        refine wpAnyH_take (i := 4) (oi := { dst := some 29, op := Go.Op.move (Go.Operand.tmp 8), type := 49, pos := "ref.go:141", after := #[], guard := none }) (v := ?_) rfl (by kernel_rfl) (by kernel_rfl) (by kernel_rfl) (fun _ _ _ h => h) (Or.inl ⟨by rfl, ?hy⟩) hH ?_
        case hy => (intro w hSw; (try dsimp only at hSw); go_simp; try with_reducible rfl)
        try simp only [Act.put, List.setIfInBounds_toArray, List.set_cons_zero, List.set_cons_succ]
        refine wpAnyH_take (i := 5) (oi := { dst := some 30, op := Go.Op.move (Go.Operand.tmp 9), type := 3, pos := "ref.go:141", after := #[], guard := none }) (v := ?_) rfl (by kernel_rfl) (by kernel_rfl) (by kernel_rfl) (fun _ _ _ h => h) (Or.inl ⟨by rfl, ?hy⟩) hH ?_
        case hy => (intro w hSw; (try dsimp only at hSw); go_simp; try with_reducible rfl)
        try simp only [Act.put, List.setIfInBounds_toArray, List.set_cons_zero, List.set_cons_succ]
        refine wpAnyH_take (i := 6) (oi := { dst := some 31, op := Go.Op.indexAddr 49 (Go.Operand.tmp 29) (Go.Operand.tmp 30), type := 0, pos := "ref.go:141", after := #[{ on := 4, ground := Go.Ground.data }, { on := 5, ground := Go.Ground.data }], guard := none }) (v := ?_) rfl (by kernel_rfl) (by kernel_rfl) (by kernel_rfl) (fun _ _ _ h => h) (Or.inl ⟨by rfl, ?hy⟩) hH ?_
        case hy => (intro w hSw; (try dsimp only at hSw); go_simp; try with_reducible rfl)
        try simp only [Act.put, List.setIfInBounds_toArray, List.set_cons_zero, List.set_cons_succ]
        refine wpAnyH_take (i := 7) (oi := { dst := some 32, op := Go.Op.load 42 (Go.Operand.tmp 31), type := 42, pos := "ref.go:141", after := #[{ on := 6, ground := Go.Ground.data }], guard := none }) (v := ?_) rfl (by kernel_rfl) (by kernel_rfl) (by kernel_rfl) (fun _ _ _ h => h) (Or.inl ⟨by rfl, ?hy⟩) hH ?_
        case hy => (intro w hSw; (try dsimp only at hSw); go_simp; try with_reducible rfl)
        try simp only [Act.put, List.setIfInBounds_toArray, List.set_cons_zero, List.set_cons_succ]
        refine wpAnyH_ready (rs := [8]) (by kernel_rfl) (by simp) ?_
        refine (AllReadyH.cons (o := { dst := some 33, op := Go.Op.call { callee := Go.Callee.value (Go.Operand.func 74), args := #[Go.Operand.tmp 25, Go.Operand.tmp 26, Go.Operand.tmp 27, Go.Operand.tmp 28, Go.Operand.tmp 32], argTypes := #[25, 26, 40, 49, 42] }, type := 4, pos := "ref.go:141", after := #[{ on := 0, ground := Go.Ground.data }, { on := 1, ground := Go.Ground.data }, { on := 2, ground := Go.Ground.data }, { on := 3, ground := Go.Ground.data }, { on := 7, ground := Go.Ground.data }], guard := none }) rfl (fun K hK => ?_) AllReadyH.nil)
        go_simp
        go_at_call 74
        refine (rfinal1_any c _ l vl ls _ js _ x _ ((HC.out.after hb).after hH) ((HS.out.after hb).after hH) hl ((HVF.out.after hbr).after hH) HFN.out ((HU.out.after hbr).after hH)).mono ?_
        rw [HMY.out]
        rintro e w5 ⟨rfl, hw5⟩
        try go_simp
        refine hK.out _ _ (below_ext hH hw5) (fun hH2 => ?_)
        clear hK K hH
        have hH := hH2
        clear hH2
        try simp only [Act.put, List.setIfInBounds_toArray, List.set_cons_zero, List.set_cons_succ]
        refine wpAnyH_take (i := 9) (oi := { dst := some 10, op := Go.Op.assign (Go.Operand.tmp 33), type := 4, pos := "ref.go:141", after := #[{ on := 8, ground := Go.Ground.data }, { on := 8, ground := Go.Ground.chain }, { on := 0, ground := Go.Ground.phase }, { on := 1, ground := Go.Ground.phase }, { on := 2, ground := Go.Ground.phase }, { on := 3, ground := Go.Ground.phase }, { on := 4, ground := Go.Ground.phase }, { on := 5, ground := Go.Ground.phase }, { on := 6, ground := Go.Ground.phase }, { on := 7, ground := Go.Ground.phase }, { on := 8, ground := Go.Ground.phase }], guard := none }) (v := ?_) rfl (by kernel_rfl) (by kernel_rfl) (by kernel_rfl) (fun _ _ _ h => h) (Or.inl ⟨by rfl, ?hy⟩) hH ?_
        case hy => (intro w hSw; (try dsimp only at hSw); go_simp; try with_reducible rfl)
        try simp only [Act.put, List.setIfInBounds_toArray, List.set_cons_zero, List.set_cons_succ]
        refine wpAnyH_done (by kernel_rfl) ?_ _
        have hb5 := below_ext hbr hH
        have hO5 := hO.after hH
        have hz5 := hH.size
        clear hH hw5 r0 r1 r2 r3 r4 y0 y1 y2 hO
        go_wp2
        go_roundw
        case rel => exact ⟨k + 1, by omega, by go_num, by rw [HF.out]; exact hO5, hb5⟩
        case measure => simp [intOf]; omega
    · have hkl : k = js.length := by omega
      subst hkl
      rw [List.take_length] at hO
      have HO := hide hO
      clear hlt hk hA hO
      go_wp2
      go_ret
      exact ⟨⟨_, _, rfl, HO.out.sl encChk_len, final_ref HJ.out⟩, below_then hb hb.size hbr⟩
end Go.Proofs.Ytbfjoakaofgapaa
