/- The reference of layer 11: the links that may be, and what is strong. -/
import Derived.Test.YtbfjoakaofgapaaRef11a
import Derived.Test.YtbfjoakaofgapaaAppSl
namespace Go.Proofs.Ytbfjoakaofgapaa
set_option linter.unusedSimpArgs false
set_option linter.unusedVariables false
set_option linter.unusedSectionVars false
open Go Go.RowKit
set_option maxRecDepth 100000

set_option maxHeartbeats 4000000 in
theorem rfine_any (c : Cnf) (v : Value) (l : List Blk) (vl : Value) (ls : List Lnk) (vs : Value) (w : World) (hC : CnfAt w v c) (hS : Sl 5 encBlk w vl l) (hl : l.length ≤ 900000) (hL : Sl 7 encLnk w vs ls) (hls : ls.length ≤ 900000) :
    Calls Try.prog 67 #[v, vl, vs] w fun e w' => ∃ u, e = .returned u ∧ Sl 7 encLnk w' u (fineL c l ls) ∧ Below w.heap.size w w' := by
  have HC := hide hC
  have HS := hide hS
  obtain ⟨s, rfl, hs⟩ := hC
  have hlen := hL.len_le
  have HL := hide hL
  obtain ⟨A, cap, rfl, hcap, hmax, hA⟩ := hL
  clear hmax hs hS
  go_enter Try.func67, Try.ntmps67
  go_wp2
  obtain ⟨W, hW⟩ : ∃ W, w.alloc (.cells #[s, .int .u64 c.seed.1, .int .i64 c.epoch.1, .int .i64 c.num.1, .int .i64 c.den.1] 25) = W := ⟨_, rfl⟩
  have hbW : Below w.heap.size w W := by rw [← hW]; exact below_alloc w _
  have hBW : Blok W w.heap.size 25 #[s, .int .u64 c.seed.1, .int .i64 c.epoch.1, .int .i64 c.num.1, .int .i64 c.den.1] := by rw [← hW]; exact Blok.new _ _ _
  have hzW : w.heap.size < W.heap.size := by rw [← hW]; simp
  rw [hW]
  clear hW
  go_loopw [7, 8] (fun v7 i wr => ∃ k : Nat, k ≤ ls.length ∧ i = .int .i64 k ∧ Below w.heap.size w wr ∧ Blok wr w.heap.size 25 #[s, .int .u64 c.seed.1, .int .i64 c.epoch.1, .int .i64 c.num.1, .int .i64 c.den.1] ∧ Own 7 encLnk 44 (w.heap.size + 1) wr v7 (fineL c l (ls.take k)) ∧ w.heap.size < wr.heap.size) (fun _ i _ => ls.length - (intOf i).toNat)
  case atStart => exact ⟨0, Nat.zero_le _, rfl, hbW, hBW, Own.nil _ _, hzW⟩
  case round =>
    clear hbW hBW hzW
    obtain ⟨k, hk, rfl, hb, hB, hO, hz⟩ := hrel
    by_cases hlt : k < ls.length
    · obtain ⟨x, hx⟩ : ∃ x, ls[k]? = some x := ⟨_, List.getElem?_eq_getElem hlt⟩
      obtain ⟨b, off, rfl, hbl, hc⟩ := hA (by intro h; subst h; simp at hlt)
      obtain ⟨wq, hwq⟩ : ∃ wq, wq = wr := ⟨_, rfl⟩
      subst hwq
      have y0 : ∀ w', Below wq.heap.size wq w' → w'.cell? ⟨b, off + k * 7, none⟩ = some (.int .i64 x.frm.1) := fun w' h => ((below_then hb hb.size h).cell (p := ⟨b, _, none⟩) hbl).trans (hc k x hx 0 _ rfl)
      have y1 : ∀ w', Below wq.heap.size wq w' → w'.cell? ⟨b, off + k * 7 + 1, none⟩ = some (.int .i64 x.src.ep.1) := fun w' h => ((below_then hb hb.size h).cell (p := ⟨b, _, none⟩) hbl).trans (hc k x hx 1 _ rfl)
      have y2 : ∀ w', Below wq.heap.size wq w' → w'.cell? ⟨b, off + k * 7 + 2, none⟩ = some (.int .u64 x.src.root.a.1) := fun w' h => ((below_then hb hb.size h).cell (p := ⟨b, _, none⟩) hbl).trans (hc k x hx 2 _ rfl)
      have y3 : ∀ w', Below wq.heap.size wq w' → w'.cell? ⟨b, off + k * 7 + 3, none⟩ = some (.int .u64 x.src.root.b.1) := fun w' h => ((below_then hb hb.size h).cell (p := ⟨b, _, none⟩) hbl).trans (hc k x hx 3 _ rfl)
      have y4 : ∀ w', Below wq.heap.size wq w' → w'.cell? ⟨b, off + k * 7 + 4, none⟩ = some (.int .i64 x.tgt.ep.1) := fun w' h => ((below_then hb hb.size h).cell (p := ⟨b, _, none⟩) hbl).trans (hc k x hx 4 _ rfl)
      have y5 : ∀ w', Below wq.heap.size wq w' → w'.cell? ⟨b, off + k * 7 + 5, none⟩ = some (.int .u64 x.tgt.root.a.1) := fun w' h => ((below_then hb hb.size h).cell (p := ⟨b, _, none⟩) hbl).trans (hc k x hx 5 _ rfl)
      have y6 : ∀ w', Below wq.heap.size wq w' → w'.cell? ⟨b, off + k * 7 + 6, none⟩ = some (.int .u64 x.tgt.root.b.1) := fun w' h => ((below_then hb hb.size h).cell (p := ⟨b, _, none⟩) hbl).trans (hc k x hx 6 _ rfl)
      have r0 := hB.ext 0 rfl
      have r1 := hB.ext 1 rfl
      have r2 := hB.ext 2 rfl
      have r3 := hB.ext 3 rfl
      have r4 := hB.ext 4 rfl
      have HT := hide (take_snoc hx)
      have hfl : (fineL c l (ls.take k)).length ≤ k := Nat.le_trans (List.length_filter_le _ _) (by rw [List.length_take]; omega)
      have HFL := hide hfl
      clear hx hc hA hfl
      have i6 : (0 : Int) ≤ (k : Int) := by omega
      have i7 : (k : Int) < (ls.length : Int) := by omega
      cases hmy : mayL c l x with
      | true =>
        have HMY := hide hmy
        have HF : Hid (fineL c l (ls.take (k + 1)) = fineL c l (ls.take k) ++ [x]) := by unfold Hid fineL; rw [HT.out, List.filter_append, List.filter_cons_of_pos hmy, List.filter_nil]
        clear hmy
        go_wp2
        refine wp_region_held_drew (S := fun w' => Below wq.heap.size wq w') (by kernel_rfl) (below_drew wq) (fun hH => ?_)
        refine wpAnyH_take (i := 0) (oi := { dst := some 16, op := Go.Op.load 25 (Go.Operand.tmp 3), type := 25, pos := "ref.go:26", after := #[], guard := none }) (v := ?_) rfl (by kernel_rfl) (by kernel_rfl) (by kernel_rfl) (fun _ _ _ h => h) (Or.inl ⟨by rfl, ?hy⟩) hH ?_
        case hy => (intro w hSw; (try dsimp only at hSw); go_simp; try with_reducible rfl)
        try simp only [Act.put, List.setIfInBounds_toArray, List.set_cons_zero, List.set_cons_succ]
        refine wpAnyH_take (i := 1) (oi := { dst := some 17, op := Go.Op.move (Go.Operand.tmp 1), type := 26, pos := "ref.go:26", after := #[], guard := none }) (v := ?_) rfl (by kernel_rfl) (by kernel_rfl) (by kernel_rfl) (fun _ _ _ h => h) (Or.inl ⟨by rfl, ?hy⟩) hH ?_
        case hy => (intro w hSw; (try dsimp only at hSw); go_simp; try with_reducible rfl)
        try simp only [Act.put, List.setIfInBounds_toArray, List.set_cons_zero, List.set_cons_succ]
        refine wpAnyH_take (i := 2) (oi := { dst := some 18, op := Go.Op.move (Go.Operand.tmp 2), type := 40, pos := "ref.go:26", after := #[], guard := none }) (v := ?_) rfl (by kernel_rfl) (by kernel_rfl) (by kernel_rfl) (fun _ _ _ h => h) (Or.inl ⟨by rfl, ?hy⟩) hH ?_
        case hy => (intro w hSw; (try dsimp only at hSw); go_simp; try with_reducible rfl)
        try simp only [Act.put, List.setIfInBounds_toArray, List.set_cons_zero, List.set_cons_succ]
        refine wpAnyH_take (i := 3) (oi := { dst := some 19, op := Go.Op.move (Go.Operand.tmp 8), type := 3, pos := "ref.go:26", after := #[], guard := none }) (v := ?_) rfl (by kernel_rfl) (by kernel_rfl) (by kernel_rfl) (fun _ _ _ h => h) (Or.inl ⟨by rfl, ?hy⟩) hH ?_
        case hy => (intro w hSw; (try dsimp only at hSw); go_simp; try with_reducible rfl)
        try simp only [Act.put, List.setIfInBounds_toArray, List.set_cons_zero, List.set_cons_succ]
        refine wpAnyH_take (i := 4) (oi := { dst := some 20, op := Go.Op.indexAddr 40 (Go.Operand.tmp 18) (Go.Operand.tmp 19), type := 0, pos := "ref.go:26", after := #[{ on := 2, ground := Go.Ground.data }, { on := 3, ground := Go.Ground.data }], guard := none }) (v := ?_) rfl (by kernel_rfl) (by kernel_rfl) (by kernel_rfl) (fun _ _ _ h => h) (Or.inl ⟨by rfl, ?hy⟩) hH ?_
        case hy => (intro w hSw; (try dsimp only at hSw); go_simp; try with_reducible rfl)
        try simp only [Act.put, List.setIfInBounds_toArray, List.set_cons_zero, List.set_cons_succ]
        refine wpAnyH_take (i := 5) (oi := { dst := some 21, op := Go.Op.load 44 (Go.Operand.tmp 20), type := 44, pos := "ref.go:26", after := #[{ on := 4, ground := Go.Ground.data }], guard := none }) (v := ?_) rfl (by kernel_rfl) (by kernel_rfl) (by kernel_rfl) (fun _ _ _ h => h) (Or.inl ⟨by rfl, ?hy⟩) hH ?_
        case hy => (intro w hSw; (try dsimp only at hSw); go_simp; try with_reducible rfl)
        try simp only [Act.put, List.setIfInBounds_toArray, List.set_cons_zero, List.set_cons_succ]
        refine wpAnyH_ready (rs := [6]) (by kernel_rfl) (by simp) ?_
        refine (AllReadyH.cons (o := { dst := some 22, op := Go.Op.call { callee := Go.Callee.value (Go.Operand.func 24), args := #[Go.Operand.tmp 16, Go.Operand.tmp 17, Go.Operand.tmp 21], argTypes := #[25, 26, 44] }, type := 4, pos := "ref.go:26", after := #[{ on := 0, ground := Go.Ground.data }, { on := 1, ground := Go.Ground.data }, { on := 5, ground := Go.Ground.data }], guard := none }) rfl (fun K hK => ?_) AllReadyH.nil)
        go_simp
        go_at_call 24
        refine (rmay11_any c _ l vl x _ ((HC.out.after hb).after hH) ((HS.out.after hb).after hH) hl).mono ?_
        rw [HMY.out]
        rintro e w5 ⟨rfl, hw5⟩
        try go_simp
        refine hK.out _ _ (below_ext hH hw5) (fun hH2 => ?_)
        clear hK K hH
        have hH := hH2
        clear hH2
        try simp only [Act.put, List.setIfInBounds_toArray, List.set_cons_zero, List.set_cons_succ]
        refine wpAnyH_take (i := 7) (oi := { dst := some 9, op := Go.Op.assign (Go.Operand.tmp 22), type := 4, pos := "ref.go:26", after := #[{ on := 6, ground := Go.Ground.data }, { on := 6, ground := Go.Ground.chain }, { on := 0, ground := Go.Ground.phase }, { on := 1, ground := Go.Ground.phase }, { on := 2, ground := Go.Ground.phase }, { on := 3, ground := Go.Ground.phase }, { on := 4, ground := Go.Ground.phase }, { on := 5, ground := Go.Ground.phase }, { on := 6, ground := Go.Ground.phase }], guard := none }) (v := ?_) rfl (by kernel_rfl) (by kernel_rfl) (by kernel_rfl) (fun _ _ _ h => h) (Or.inl ⟨by rfl, ?hy⟩) hH ?_
        case hy => (intro w hSw; (try dsimp only at hSw); go_simp; try with_reducible rfl)
        try simp only [Act.put, List.setIfInBounds_toArray, List.set_cons_zero, List.set_cons_succ]
        refine wpAnyH_done (by kernel_rfl) ?_ _
        have e0 := y0 w5 hH
        have e1 := y1 w5 hH
        have e2 := y2 w5 hH
        have e3 := y3 w5 hH
        have e4 := y4 w5 hH
        have e5 := y5 w5 hH
        have e6 := y6 w5 hH
        have hb5 := below_then hb hb.size hH
        have hB5 := hB.after hH
        have hO5 := hO.after hH
        have hz5 := hH.size
        clear hH hw5 r0 r1 r2 r3 r4 y0 y1 y2 y3 y4 y5 y6 hb hB hO
        go_wp2_with (at_builtin; refine wpList_app encLnk_len (by omega) encLnk_one (W := _) x rfl (.tmp 24) (.tmp 29) rfl Try.underlying40 infoLnk rfl rfl rfl rfl hO5 (by have := HFL.out; omega) (by omega) (by omega) ?_; intro v8 w8 hO8 hg8)
        go_roundw
        case rel => exact ⟨k + 1, by omega, by go_num, below_row hb5 (by omega) hb5.size hO5 hg8, hB5.grown hg8 (hO5.ne (by omega)), by rw [HF.out]; exact hO8, by have := hg8.size; omega⟩
        case measure => simp [intOf]; omega
      | false =>
        have HMY := hide hmy
        have HF : Hid (fineL c l (ls.take (k + 1)) = fineL c l (ls.take k)) := by unfold Hid fineL; rw [HT.out, List.filter_append, List.filter_cons_of_neg (by rw [hmy]; simp), List.filter_nil, List.append_nil]
        clear hmy
        go_wp2
        refine wp_region_held_drew (S := fun w' => Below wq.heap.size wq w') (by kernel_rfl) (below_drew wq) (fun hH => ?_)
        refine wpAnyH_take (i := 0) (oi := { dst := some 16, op := Go.Op.load 25 (Go.Operand.tmp 3), type := 25, pos := "ref.go:26", after := #[], guard := none }) (v := ?_) rfl (by kernel_rfl) (by kernel_rfl) (by kernel_rfl) (fun _ _ _ h => h) (Or.inl ⟨by rfl, ?hy⟩) hH ?_
        case hy => (intro w hSw; (try dsimp only at hSw); go_simp; try with_reducible rfl)
        try simp only [Act.put, List.setIfInBounds_toArray, List.set_cons_zero, List.set_cons_succ]
        refine wpAnyH_take (i := 1) (oi := { dst := some 17, op := Go.Op.move (Go.Operand.tmp 1), type := 26, pos := "ref.go:26", after := #[], guard := none }) (v := ?_) rfl (by kernel_rfl) (by kernel_rfl) (by kernel_rfl) (fun _ _ _ h => h) (Or.inl ⟨by rfl, ?hy⟩) hH ?_
        case hy => (intro w hSw; (try dsimp only at hSw); go_simp; try with_reducible rfl)
        try simp only [Act.put, List.setIfInBounds_toArray, List.set_cons_zero, List.set_cons_succ]
        refine wpAnyH_take (i := 2) (oi := { dst := some 18, op := Go.Op.move (Go.Operand.tmp 2), type := 40, pos := "ref.go:26", after := #[], guard := none }) (v := ?_) rfl (by kernel_rfl) (by kernel_rfl) (by kernel_rfl) (fun _ _ _ h => h) (Or.inl ⟨by rfl, ?hy⟩) hH ?_
        case hy => (intro w hSw; (try dsimp only at hSw); go_simp; try with_reducible rfl)
        try simp only [Act.put, List.setIfInBounds_toArray, List.set_cons_zero, List.set_cons_succ]
        refine wpAnyH_take (i := 3) (oi := { dst := some 19, op := Go.Op.move (Go.Operand.tmp 8), type := 3, pos := "ref.go:26", after := #[], guard := none }) (v := ?_) rfl (by kernel_rfl) (by kernel_rfl) (by kernel_rfl) (fun _ _ _ h => h) (Or.inl ⟨by rfl, ?hy⟩) hH ?_
        case hy => (intro w hSw; (try dsimp only at hSw); go_simp; try with_reducible rfl)
        try simp only [Act.put, List.setIfInBounds_toArray, List.set_cons_zero, List.set_cons_succ]
        refine wpAnyH_take (i := 4) (oi := { dst := some 20, op := Go.Op.indexAddr 40 (Go.Operand.tmp 18) (Go.Operand.tmp 19), type := 0, pos := "ref.go:26", after := #[{ on := 2, ground := Go.Ground.data }, { on := 3, ground := Go.Ground.data }], guard := none }) (v := ?_) rfl (by kernel_rfl) (by kernel_rfl) (by kernel_rfl) (fun _ _ _ h => h) (Or.inl ⟨by rfl, ?hy⟩) hH ?_
        case hy => (intro w hSw; (try dsimp only at hSw); go_simp; try with_reducible rfl)
        try simp only [Act.put, List.setIfInBounds_toArray, List.set_cons_zero, List.set_cons_succ]
        refine wpAnyH_take (i := 5) (oi := { dst := some 21, op := Go.Op.load 44 (Go.Operand.tmp 20), type := 44, pos := "ref.go:26", after := #[{ on := 4, ground := Go.Ground.data }], guard := none }) (v := ?_) rfl (by kernel_rfl) (by kernel_rfl) (by kernel_rfl) (fun _ _ _ h => h) (Or.inl ⟨by rfl, ?hy⟩) hH ?_
        case hy => (intro w hSw; (try dsimp only at hSw); go_simp; try with_reducible rfl)
        try simp only [Act.put, List.setIfInBounds_toArray, List.set_cons_zero, List.set_cons_succ]
        refine wpAnyH_ready (rs := [6]) (by kernel_rfl) (by simp) ?_
        refine (AllReadyH.cons (o := { dst := some 22, op := Go.Op.call { callee := Go.Callee.value (Go.Operand.func 24), args := #[Go.Operand.tmp 16, Go.Operand.tmp 17, Go.Operand.tmp 21], argTypes := #[25, 26, 44] }, type := 4, pos := "ref.go:26", after := #[{ on := 0, ground := Go.Ground.data }, { on := 1, ground := Go.Ground.data }, { on := 5, ground := Go.Ground.data }], guard := none }) rfl (fun K hK => ?_) AllReadyH.nil)
        go_simp
        go_at_call 24
        refine (rmay11_any c _ l vl x _ ((HC.out.after hb).after hH) ((HS.out.after hb).after hH) hl).mono ?_
        rw [HMY.out]
        rintro e w5 ⟨rfl, hw5⟩
        try go_simp
        refine hK.out _ _ (below_ext hH hw5) (fun hH2 => ?_)
        clear hK K hH
        have hH := hH2
        clear hH2
        try simp only [Act.put, List.setIfInBounds_toArray, List.set_cons_zero, List.set_cons_succ]
        refine wpAnyH_take (i := 7) (oi := { dst := some 9, op := Go.Op.assign (Go.Operand.tmp 22), type := 4, pos := "ref.go:26", after := #[{ on := 6, ground := Go.Ground.data }, { on := 6, ground := Go.Ground.chain }, { on := 0, ground := Go.Ground.phase }, { on := 1, ground := Go.Ground.phase }, { on := 2, ground := Go.Ground.phase }, { on := 3, ground := Go.Ground.phase }, { on := 4, ground := Go.Ground.phase }, { on := 5, ground := Go.Ground.phase }, { on := 6, ground := Go.Ground.phase }], guard := none }) (v := ?_) rfl (by kernel_rfl) (by kernel_rfl) (by kernel_rfl) (fun _ _ _ h => h) (Or.inl ⟨by rfl, ?hy⟩) hH ?_
        case hy => (intro w hSw; (try dsimp only at hSw); go_simp; try with_reducible rfl)
        try simp only [Act.put, List.setIfInBounds_toArray, List.set_cons_zero, List.set_cons_succ]
        refine wpAnyH_done (by kernel_rfl) ?_ _
        have hb5 := below_then hb hb.size hH
        have hB5 := hB.after hH
        have hO5 := hO.after hH
        have hz5 := hH.size
        clear hH hw5 r0 r1 r2 r3 r4 y0 y1 y2 y3 y4 y5 y6 hb hB hO
        go_wp2
        go_roundw
        case rel => exact ⟨k + 1, by omega, by go_num, hb5, hB5, by rw [HF.out]; exact hO5, by omega⟩
        case measure => simp [intOf]; omega
    · have hkl : k = ls.length := by omega
      subst hkl
      rw [List.take_length] at hO
      have HO := hide hO
      clear hlt hk hA hO
      go_wp2
      go_ret
      exact ⟨_, rfl, HO.out.sl encLnk_len, hb⟩
end Go.Proofs.Ytbfjoakaofgapaa
