/- marigoldlaw11.FfgOrder: whatever comes in, true. -/
import Derived.Test.YtbfjoakaofgapaaLawEp
import Derived.Test.YtbfjoakaofgapaaAppSl
namespace Go.Proofs.Ytbfjoakaofgapaa
set_option linter.unusedSimpArgs false
set_option linter.unusedVariables false
set_option linter.unusedSectionVars false
open Go Go.RowKit
set_option maxRecDepth 100000

theorem mem_turn {α : Type} (v : List α) (n : Nat) (x : α) : x ∈ v ↔ x ∈ v.drop n ++ v := by
  rw [List.mem_append]
  exact ⟨.inr, fun h => h.elim List.mem_of_mem_drop id⟩
set_option maxHeartbeats 4000000 in
theorem ffgOrder_any (c : Cnf) (v : Value) (l : List Blk) (vl : Value) (ls : List Lnk) (vs : Value) (at_ : I64) (w : World) (hC : CnfAt w v c) (hS : Sl 5 encBlk w vl l) (hL : Sl 7 encLnk w vs ls) :
    Calls Try.prog 7 #[v, vl, vs, .int .i64 at_.1] w fun e w' => e = .returned (.bool true) ∧ Below w.heap.size w w' := by
  have HC := hide hC
  have HS := hide hS
  have HL := hide hL
  obtain ⟨s, rfl, hs⟩ := hC
  have hlen := hL.len_le
  obtain ⟨A, cap, rfl, hcap, hmax, hA⟩ := hL
  clear hs hS hA
  have HMax := hide hmax
  clear hmax
  go_enter Try.func7, Try.ntmps7
  go_wp2_with fail
  obtain ⟨W, hW⟩ : ∃ W, w.alloc (.cells #[s, .int .u64 c.seed.1, .int .i64 c.epoch.1, .int .i64 c.num.1, .int .i64 c.den.1] 25) = W := ⟨_, rfl⟩
  have hbW : Below w.heap.size w W := by rw [← hW]; exact below_alloc w _
  have hB : Blok W w.heap.size 25 #[s, .int .u64 c.seed.1, .int .i64 c.epoch.1, .int .i64 c.num.1, .int .i64 c.den.1] := by rw [← hW]; exact Blok.new _ _ _
  rw [hW]
  clear hW
  refine (awake_any _).mono ?_
  rintro e w1 ⟨rfl, hb1⟩
  replace hB := hB.after hb1
  have hb := below_then hbW hbW.size hb1
  clear hbW hb1
  have r0 := hB.cell 0
  have r1 := hB.cell 1
  have r2 := hB.cell 2
  have r3 := hB.cell 3
  have r4 := hB.cell 4
  go_wp2_with fail
  refine (few11_any c _ l vl ls _ _ (HC.out.after hb) (HS.out.after hb) (HL.out.after hb)).mono ?_
  rintro e w2 ⟨rfl, hb2⟩
  replace hB := hB.after hb2
  replace hb := below_then hb hb.size hb2
  clear hb2 r0 r1 r2 r3 r4
  cases hf : few11 c l ls with
  | false =>
    go_wp2
    go_ret
    exact ⟨rfl, hb⟩
  | true =>
    obtain ⟨hn1, hn2, hn3⟩ := few11_iff hf
    clear hf
    by_cases h20 : 20 < ls.length
    · go_wp2
      go_ret
      exact ⟨rfl, hb⟩
    · by_cases h0 : at_.1 < 0
      · go_wp2
        go_ret
        exact ⟨rfl, hb⟩
      · by_cases hn : (ls.length : Int) < at_.1
        · go_wp2
          go_ret
          exact ⟨rfl, hb⟩
        · obtain ⟨n, hn0⟩ := Int.eq_ofNat_of_zero_le (show 0 ≤ at_.1 by omega)
          rw [hn0] at h0 hn ⊢
          have hnl : n ≤ ls.length := by omega
          clear h0 hn hn0
          have HL2 := hide (HL.out.after hb)
          have hsz := hb.size
          go_wp2_with (first | (refine wpList_slFrom (k := 7) (enc := encLnk) rfl (.tmp 41) (.tmp 42) rfl elemLnk sizeLnk rfl n rfl HL2.out hnl ?_; intro v2 hv2) | (at_builtin; refine wpList_app_sl encLnk_len (by omega) encLnk_one (ls.drop n) rfl (.const (.slice none 0 0)) (.tmp 43) rfl Try.underlying40 infoLnk rfl rfl rfl (Own.nil (k := 7) (enc := encLnk) w2.heap.size w2) hv2 (by rw [List.length_drop]; simp; omega) (by omega) (Nat.le_refl _) ?_; intro v3 w3 ho3 hg3 hat3) | (at_builtin; refine wpList_app_sl encLnk_len (by omega) encLnk_one ls rfl (.tmp 44) (.tmp 45) rfl Try.underlying40 infoLnk rfl rfl rfl ho3 (HL2.out.after (below_row (Below.refl _ _) (Nat.le_refl _) (Nat.le_refl _) (Own.nil (k := 7) (enc := encLnk) (e := 44) w2.heap.size w2) hg3)) (by simp; omega) (by omega) hg3.size ?_; intro v4 w4 ho4 hg4 hat4))
          have hb4 : Below w2.heap.size w2 w4 := below_row (below_row (Below.refl _ _) (Nat.le_refl _) (Nat.le_refl _) (Own.nil (k := 7) (enc := encLnk) (e := 44) w2.heap.size w2) hg3) (Nat.le_refl _) hg3.size ho3 hg4
          obtain ⟨us, hus⟩ : ∃ us, us = [] ++ ls.drop n ++ ls := ⟨_, rfl⟩
          rw [← hus] at ho4
          have HU := hide (ho4.sl encLnk_len)
          have hul : us.length ≤ 900000 := by rw [hus]; simp; omega
          have HM : Hid (∀ x, x ∈ ls ↔ x ∈ us) := fun x => by rw [hus, List.nil_append]; exact mem_turn ls n x
          have hb5 := below_then hb hb.size hb4
          have hB5 := hB.after hb4
          clear hus ho3 hg3 hat3 ho4 hg4 hat4 hv2 HL2 hB hb hb4 hsz
          obtain ⟨wo, hwo⟩ : ∃ wo, wo = w4 := ⟨_, rfl⟩
          subst hwo
          have r0 := hB5.ext 0 rfl
          have r1 := hB5.ext 1 rfl
          have r2 := hB5.ext 2 rfl
          have r3 := hB5.ext 3 rfl
          have r4 := hB5.ext 4 rfl
          go_wp2
          refine wp_region_held_drew (S := fun w' => Below wo.heap.size wo w') (by kernel_rfl) (below_drew wo) (fun hH => ?_)
          refine wpAnyH_take (i := 0) (oi := { dst := some 47, op := Go.Op.load 25 (Go.Operand.tmp 4), type := 25, pos := "more.go:18", after := #[], guard := none }) (v := ?_) rfl (by kernel_rfl) (by kernel_rfl) (by kernel_rfl) (fun _ _ _ h => h) (Or.inl ⟨by rfl, ?hy⟩) hH ?_
          case hy => (intro w hSw; (try dsimp only at hSw); go_simp; try with_reducible rfl)
          try simp only [Act.put, List.setIfInBounds_toArray, List.set_cons_zero, List.set_cons_succ]
          refine wpAnyH_take (i := 1) (oi := { dst := some 48, op := Go.Op.move (Go.Operand.tmp 1), type := 26, pos := "more.go:18", after := #[], guard := none }) (v := ?_) rfl (by kernel_rfl) (by kernel_rfl) (by kernel_rfl) (fun _ _ _ h => h) (Or.inl ⟨by rfl, ?hy⟩) hH ?_
          case hy => (intro w hSw; (try dsimp only at hSw); go_simp; try with_reducible rfl)
          try simp only [Act.put, List.setIfInBounds_toArray, List.set_cons_zero, List.set_cons_succ]
          refine wpAnyH_take (i := 2) (oi := { dst := some 49, op := Go.Op.move (Go.Operand.tmp 2), type := 40, pos := "more.go:18", after := #[], guard := none }) (v := ?_) rfl (by kernel_rfl) (by kernel_rfl) (by kernel_rfl) (fun _ _ _ h => h) (Or.inl ⟨by rfl, ?hy⟩) hH ?_
          case hy => (intro w hSw; (try dsimp only at hSw); go_simp; try with_reducible rfl)
          try simp only [Act.put, List.setIfInBounds_toArray, List.set_cons_zero, List.set_cons_succ]
          refine wpAnyH_take (i := 4) (oi := { dst := some 51, op := Go.Op.load 25 (Go.Operand.tmp 4), type := 25, pos := "more.go:18", after := #[], guard := none }) (v := ?_) rfl (by kernel_rfl) (by kernel_rfl) (by kernel_rfl) (fun _ _ _ h => h) (Or.inl ⟨by rfl, ?hy⟩) hH ?_
          case hy => (intro w hSw; (try dsimp only at hSw); go_simp; try with_reducible rfl)
          try simp only [Act.put, List.setIfInBounds_toArray, List.set_cons_zero, List.set_cons_succ]
          refine wpAnyH_take (i := 5) (oi := { dst := some 52, op := Go.Op.move (Go.Operand.tmp 1), type := 26, pos := "more.go:18", after := #[], guard := none }) (v := ?_) rfl (by kernel_rfl) (by kernel_rfl) (by kernel_rfl) (fun _ _ _ h => h) (Or.inl ⟨by rfl, ?hy⟩) hH ?_
          case hy => (intro w hSw; (try dsimp only at hSw); go_simp; try with_reducible rfl)
          try simp only [Act.put, List.setIfInBounds_toArray, List.set_cons_zero, List.set_cons_succ]
          refine wpAnyH_take (i := 6) (oi := { dst := some 53, op := Go.Op.move (Go.Operand.tmp 11), type := 40, pos := "more.go:18", after := #[], guard := none }) (v := ?_) rfl (by kernel_rfl) (by kernel_rfl) (by kernel_rfl) (fun _ _ _ h => h) (Or.inl ⟨by rfl, ?hy⟩) hH ?_
          case hy => (intro w hSw; (try dsimp only at hSw); go_simp; try with_reducible rfl)
          try simp only [Act.put, List.setIfInBounds_toArray, List.set_cons_zero, List.set_cons_succ]
          refine wpAnyH_ready (rs := [3]) (by kernel_rfl) (by simp) ?_
          refine (AllReadyH.cons (o := { dst := some 50, op := Go.Op.call { callee := Go.Callee.value (Go.Operand.func 27), args := #[Go.Operand.tmp 47, Go.Operand.tmp 48, Go.Operand.tmp 49], argTypes := #[25, 26, 40] }, type := 49, pos := "more.go:18", after := #[{ on := 0, ground := Go.Ground.data }, { on := 1, ground := Go.Ground.data }, { on := 2, ground := Go.Ground.data }], guard := none }) rfl (fun K hK => ?_) AllReadyH.nil)
          go_simp
          go_at_call 27
          refine (just_any2 c _ l vl ls (.slice A ls.length cap) _ ((HC.out.after hb5).after hH) ((HS.out.after hb5).after hH) (by omega) ((HL.out.after hb5).after hH) (by omega)).mono ?_
          rintro e w6 ⟨⟨u6, js, rfl, hu6, hj6⟩, hb6⟩
          try go_simp
          refine hK.out _ _ (below_ext hH hb6) (fun hH2 => ?_)
          clear hK K hH
          have hH := hH2
          clear hH2
          try simp only [Act.put, List.setIfInBounds_toArray, List.set_cons_zero, List.set_cons_succ]
          refine wpAnyH_ready (rs := [7]) (by kernel_rfl) (by simp) ?_
          refine (AllReadyH.cons (o := { dst := some 54, op := Go.Op.call { callee := Go.Callee.value (Go.Operand.func 27), args := #[Go.Operand.tmp 51, Go.Operand.tmp 52, Go.Operand.tmp 53], argTypes := #[25, 26, 40] }, type := 49, pos := "more.go:18", after := #[{ on := 4, ground := Go.Ground.data }, { on := 5, ground := Go.Ground.data }, { on := 6, ground := Go.Ground.data }, { on := 3, ground := Go.Ground.chain }], guard := none }) rfl (fun K hK => ?_) AllReadyH.nil)
          go_simp
          go_at_call 27
          refine (just_any2 c _ l vl us v4 _ ((HC.out.after hb5).after hH) ((HS.out.after hb5).after hH) (by omega) (HU.out.after hH) hul).mono ?_
          rintro e w7 ⟨⟨u7, ks, rfl, hu7, hk7⟩, hb7⟩
          try go_simp
          refine hK.out _ _ (below_ext hH hb7) (fun hH2 => ?_)
          clear hK K hH
          have hH := hH2
          clear hH2
          try simp only [Act.put, List.setIfInBounds_toArray, List.set_cons_zero, List.set_cons_succ]
          refine wpAnyH_ready (rs := [8]) (by kernel_rfl) (by simp) ?_
          refine (AllReadyH.cons (o := { dst := some 55, op := Go.Op.call { callee := Go.Callee.value (Go.Operand.func 26), args := #[Go.Operand.tmp 50, Go.Operand.tmp 54], argTypes := #[49, 49] }, type := 4, pos := "more.go:18", after := #[{ on := 3, ground := Go.Ground.data }, { on := 7, ground := Go.Ground.data }, { on := 7, ground := Go.Ground.chain }], guard := none }) rfl (fun K hK => ?_) AllReadyH.nil)
          go_simp
          go_at_call 26
          refine (rsameC_any js ks u6 u7 _ (hu6.after hb7) hu7).mono ?_
          rw [just_same HM.out hj6 hk7, decide_eq_true rfl]
          rintro e w8 ⟨rfl, hb8⟩
          try go_simp
          refine hK.out _ _ (below_ext hH hb8) (fun hH2 => ?_)
          clear hK K hH
          have hH := hH2
          clear hH2
          try simp only [Act.put, List.setIfInBounds_toArray, List.set_cons_zero, List.set_cons_succ]
          refine wpAnyH_take (i := 9) (oi := { dst := some 12, op := Go.Op.assign (Go.Operand.tmp 55), type := 4, pos := "more.go:18", after := #[{ on := 8, ground := Go.Ground.data }, { on := 8, ground := Go.Ground.chain }, { on := 0, ground := Go.Ground.phase }, { on := 1, ground := Go.Ground.phase }, { on := 2, ground := Go.Ground.phase }, { on := 3, ground := Go.Ground.phase }, { on := 4, ground := Go.Ground.phase }, { on := 5, ground := Go.Ground.phase }, { on := 6, ground := Go.Ground.phase }, { on := 7, ground := Go.Ground.phase }, { on := 8, ground := Go.Ground.phase }], guard := none }) (v := ?_) rfl (by kernel_rfl) (by kernel_rfl) (by kernel_rfl) (fun _ _ _ h => h) (Or.inl ⟨by rfl, ?hy⟩) hH ?_
          case hy => (intro w hSw; (try dsimp only at hSw); go_simp; try with_reducible rfl)
          try simp only [Act.put, List.setIfInBounds_toArray, List.set_cons_zero, List.set_cons_succ]
          refine wpAnyH_done (by kernel_rfl) ?_ _
          all_goals
            have HJ := hide hj6
            have HK := hide hk7
            have hb9 := hH
            clear hH
            have hbA := below_then hb5 hb5.size hb9
            have hBA := hB5.after hb9
            have HUA := hide (HU.out.after hb9)
            clear hb6 hb7 hb8 hb9 hu6 hu7 hj6 hk7 r0 r1 r2 r3 r4 hB5 hb5 HU
            obtain ⟨wq, hwq⟩ : ∃ wq, wq = w8 := ⟨_, rfl⟩
            subst hwq
            have r0 := hBA.ext 0 rfl
            have r1 := hBA.ext 1 rfl
            have r2 := hBA.ext 2 rfl
            have r3 := hBA.ext 3 rfl
            have r4 := hBA.ext 4 rfl
            go_wp2
            refine wp_region_held_drew (S := fun w' => Below wq.heap.size wq w') (by kernel_rfl) (below_drew wq) (fun hH => ?_)
            refine wpAnyH_take (i := 0) (oi := { dst := some 56, op := Go.Op.load 25 (Go.Operand.tmp 4), type := 25, pos := "more.go:19", after := #[], guard := none }) (v := ?_) rfl (by kernel_rfl) (by kernel_rfl) (by kernel_rfl) (fun _ _ _ h => h) (Or.inl ⟨by rfl, ?hy⟩) hH ?_
            case hy => (intro w hSw; (try dsimp only at hSw); go_simp; try with_reducible rfl)
            try simp only [Act.put, List.setIfInBounds_toArray, List.set_cons_zero, List.set_cons_succ]
            refine wpAnyH_take (i := 1) (oi := { dst := some 57, op := Go.Op.move (Go.Operand.tmp 1), type := 26, pos := "more.go:19", after := #[], guard := none }) (v := ?_) rfl (by kernel_rfl) (by kernel_rfl) (by kernel_rfl) (fun _ _ _ h => h) (Or.inl ⟨by rfl, ?hy⟩) hH ?_
            case hy => (intro w hSw; (try dsimp only at hSw); go_simp; try with_reducible rfl)
            try simp only [Act.put, List.setIfInBounds_toArray, List.set_cons_zero, List.set_cons_succ]
            refine wpAnyH_take (i := 2) (oi := { dst := some 58, op := Go.Op.move (Go.Operand.tmp 2), type := 40, pos := "more.go:19", after := #[], guard := none }) (v := ?_) rfl (by kernel_rfl) (by kernel_rfl) (by kernel_rfl) (fun _ _ _ h => h) (Or.inl ⟨by rfl, ?hy⟩) hH ?_
            case hy => (intro w hSw; (try dsimp only at hSw); go_simp; try with_reducible rfl)
            try simp only [Act.put, List.setIfInBounds_toArray, List.set_cons_zero, List.set_cons_succ]
            refine wpAnyH_take (i := 4) (oi := { dst := some 60, op := Go.Op.load 25 (Go.Operand.tmp 4), type := 25, pos := "more.go:19", after := #[], guard := none }) (v := ?_) rfl (by kernel_rfl) (by kernel_rfl) (by kernel_rfl) (fun _ _ _ h => h) (Or.inl ⟨by rfl, ?hy⟩) hH ?_
            case hy => (intro w hSw; (try dsimp only at hSw); go_simp; try with_reducible rfl)
            try simp only [Act.put, List.setIfInBounds_toArray, List.set_cons_zero, List.set_cons_succ]
            refine wpAnyH_take (i := 5) (oi := { dst := some 61, op := Go.Op.move (Go.Operand.tmp 1), type := 26, pos := "more.go:19", after := #[], guard := none }) (v := ?_) rfl (by kernel_rfl) (by kernel_rfl) (by kernel_rfl) (fun _ _ _ h => h) (Or.inl ⟨by rfl, ?hy⟩) hH ?_
            case hy => (intro w hSw; (try dsimp only at hSw); go_simp; try with_reducible rfl)
            try simp only [Act.put, List.setIfInBounds_toArray, List.set_cons_zero, List.set_cons_succ]
            refine wpAnyH_take (i := 6) (oi := { dst := some 62, op := Go.Op.move (Go.Operand.tmp 11), type := 40, pos := "more.go:19", after := #[], guard := none }) (v := ?_) rfl (by kernel_rfl) (by kernel_rfl) (by kernel_rfl) (fun _ _ _ h => h) (Or.inl ⟨by rfl, ?hy⟩) hH ?_
            case hy => (intro w hSw; (try dsimp only at hSw); go_simp; try with_reducible rfl)
            try simp only [Act.put, List.setIfInBounds_toArray, List.set_cons_zero, List.set_cons_succ]
            refine wpAnyH_ready (rs := [3]) (by kernel_rfl) (by simp) ?_
            refine (AllReadyH.cons (o := { dst := some 59, op := Go.Op.call { callee := Go.Callee.value (Go.Operand.func 29), args := #[Go.Operand.tmp 56, Go.Operand.tmp 57, Go.Operand.tmp 58], argTypes := #[25, 26, 40] }, type := 49, pos := "more.go:19", after := #[{ on := 0, ground := Go.Ground.data }, { on := 1, ground := Go.Ground.data }, { on := 2, ground := Go.Ground.data }], guard := none }) rfl (fun K hK => ?_) AllReadyH.nil)
            go_simp
            go_at_call 29
            refine (final_any c _ l vl ls (.slice A ls.length cap) _ ((HC.out.after hbA).after hH) ((HS.out.after hbA).after hH) (by omega) ((HL.out.after hbA).after hH) (by omega)).mono ?_
            rintro e w6 ⟨⟨u6, jsf, rfl, hu6, hj6f⟩, hb6⟩
            try go_simp
            refine hK.out _ _ (below_ext hH hb6) (fun hH2 => ?_)
            clear hK K hH
            have hH := hH2
            clear hH2
            try simp only [Act.put, List.setIfInBounds_toArray, List.set_cons_zero, List.set_cons_succ]
            refine wpAnyH_ready (rs := [7]) (by kernel_rfl) (by simp) ?_
            refine (AllReadyH.cons (o := { dst := some 63, op := Go.Op.call { callee := Go.Callee.value (Go.Operand.func 29), args := #[Go.Operand.tmp 60, Go.Operand.tmp 61, Go.Operand.tmp 62], argTypes := #[25, 26, 40] }, type := 49, pos := "more.go:19", after := #[{ on := 4, ground := Go.Ground.data }, { on := 5, ground := Go.Ground.data }, { on := 6, ground := Go.Ground.data }, { on := 3, ground := Go.Ground.chain }], guard := none }) rfl (fun K hK => ?_) AllReadyH.nil)
            go_simp
            go_at_call 29
            refine (final_any c _ l vl us v4 _ ((HC.out.after hbA).after hH) ((HS.out.after hbA).after hH) (by omega) (HUA.out.after hH) hul).mono ?_
            rintro e w7 ⟨⟨u7, ksf, rfl, hu7, hk7f⟩, hb7⟩
            try go_simp
            refine hK.out _ _ (below_ext hH hb7) (fun hH2 => ?_)
            clear hK K hH
            have hH := hH2
            clear hH2
            try simp only [Act.put, List.setIfInBounds_toArray, List.set_cons_zero, List.set_cons_succ]
            refine wpAnyH_ready (rs := [8]) (by kernel_rfl) (by simp) ?_
            refine (AllReadyH.cons (o := { dst := some 64, op := Go.Op.call { callee := Go.Callee.value (Go.Operand.func 26), args := #[Go.Operand.tmp 59, Go.Operand.tmp 63], argTypes := #[49, 49] }, type := 4, pos := "more.go:19", after := #[{ on := 3, ground := Go.Ground.data }, { on := 7, ground := Go.Ground.data }, { on := 7, ground := Go.Ground.chain }], guard := none }) rfl (fun K hK => ?_) AllReadyH.nil)
            go_simp
            go_at_call 26
            refine (rsameC_any jsf ksf u6 u7 _ (hu6.after hb7) hu7).mono ?_
            rw [final_same HM.out HJ.out HK.out hj6f hk7f, decide_eq_true rfl]
            rintro e w8 ⟨rfl, hb8⟩
            try go_simp
            refine hK.out _ _ (below_ext hH hb8) (fun hH2 => ?_)
            clear hK K hH
            have hH := hH2
            clear hH2
            try simp only [Act.put, List.setIfInBounds_toArray, List.set_cons_zero, List.set_cons_succ]
            refine wpAnyH_take (i := 9) (oi := { dst := some 13, op := Go.Op.assign (Go.Operand.tmp 64), type := 4, pos := "more.go:19", after := #[{ on := 8, ground := Go.Ground.data }, { on := 8, ground := Go.Ground.chain }, { on := 0, ground := Go.Ground.phase }, { on := 1, ground := Go.Ground.phase }, { on := 2, ground := Go.Ground.phase }, { on := 3, ground := Go.Ground.phase }, { on := 4, ground := Go.Ground.phase }, { on := 5, ground := Go.Ground.phase }, { on := 6, ground := Go.Ground.phase }, { on := 7, ground := Go.Ground.phase }, { on := 8, ground := Go.Ground.phase }], guard := none }) (v := ?_) rfl (by kernel_rfl) (by kernel_rfl) (by kernel_rfl) (fun _ _ _ h => h) (Or.inl ⟨by rfl, ?hy⟩) hH ?_
            case hy => (intro w hSw; (try dsimp only at hSw); go_simp; try with_reducible rfl)
            try simp only [Act.put, List.setIfInBounds_toArray, List.set_cons_zero, List.set_cons_succ]
            refine wpAnyH_done (by kernel_rfl) ?_ _
            all_goals
              have hbZ := below_then hbA hbA.size hH
              clear r0 r1 r2 r3 r4
              go_wp2
              go_ret
              exact ⟨rfl, hbZ⟩
end Go.Proofs.Ytbfjoakaofgapaa
