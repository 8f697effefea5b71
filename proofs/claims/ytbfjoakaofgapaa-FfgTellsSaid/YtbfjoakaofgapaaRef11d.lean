/- The reference of layer 11: the links that may be, and what is strong. -/
import Derived.Test.YtbfjoakaofgapaaRef11c
import Derived.Test.YtbfjoakaofgapaaAppSl
import Derived.Test.YtbfjoakaofgapaaFew11
namespace Go.Proofs.Ytbfjoakaofgapaa
set_option linter.unusedSimpArgs false
set_option linter.unusedVariables false
set_option linter.unusedSectionVars false
open Go Go.RowKit
set_option maxRecDepth 100000

set_option maxHeartbeats 4000000 in
theorem rput_any (l : List Chk) (v : Value) (x : Chk) (w : World) (hS : Sl 3 encChk w v l) (hl : l.length ≤ 450000) :
    Calls Try.prog 72 #[v, vChk x] w fun e w' => ∃ u k, e = .returned u ∧ PutAt x l k ∧ Sl 3 encChk w' u (insAt x l k) ∧ Below w.heap.size w w' := by
  have HS := hide hS
  obtain ⟨A, cap, rfl, hcap, hmax, hA⟩ := hS
  clear hmax
  go_enter Try.func72, Try.ntmps72
  go_wp2
  obtain ⟨W, hW⟩ : ∃ W, w.alloc (.cells #[.int .i64 x.ep.1, .int .u64 x.root.a.1, .int .u64 x.root.b.1] 42) = W := ⟨_, rfl⟩
  have hbW : Below w.heap.size w W := by rw [← hW]; exact below_alloc w _
  have hB : Blok W w.heap.size 42 #[.int .i64 x.ep.1, .int .u64 x.root.a.1, .int .u64 x.root.b.1] := by rw [← hW]; exact Blok.new _ _ _
  rw [hW]
  clear hW
  go_loopw [5] (fun i wr => ∃ k : Nat, k ≤ l.length ∧ i = .int .i64 k ∧ (∀ j y, k ≤ j → l[j]? = some y → ltC x y = true) ∧ Below W.heap.size W wr) (fun i _ => (intOf i).toNat)
  case atStart => exact ⟨l.length, Nat.le_refl _, rfl, fun j y hj hy => by have := (List.getElem?_eq_some_iff.1 hy).1; omega, Below.refl _ _⟩
  case round =>
    obtain ⟨k, hk, rfl, hhi, hbr⟩ := hrel
    have HHI := hide hhi
    clear hhi
    by_cases h0 : k = 0
    · have HPA : Hid (PutAt x l k) := ⟨hk, HHI.out, .inl h0⟩
      clear hA
      have hkz : ¬ 0 < k := by omega
      have hkd : decide (0 < k) = false := decide_eq_false hkz
      have hkd2 : decide ((k : Int) > 0) = false := decide_eq_false (by omega)
      clear h0
      obtain ⟨wZ, hwZ⟩ : ∃ wZ, wZ = wr := ⟨_, rfl⟩
      subst hwZ
      have hS4 := hide (HS.out.after (below_then hbW hbW.size hbr))
      have hB4 := hB.after hbr
      have c0 := hB4.cell 0
      have c1 := hB4.cell 1
      have c2 := hB4.cell 2
      have hkl : (l.take k).length = k := by rw [List.length_take]; omega
      have hkl2 : (l.drop k).length = l.length - k := by rw [List.length_drop]
      have HK1 := hide hkl
      have HK2 := hide hkl2
      clear hkl hkl2
      go_wp2_with (first
        | (refine wpList_slUpto (k := 3) (enc := encChk) rfl (.tmp 23) (.tmp 24) rfl elemChk sizeChk rfl k rfl hS4.out (by omega) ?_; intro v2 hv2)
        | (at_builtin; refine wpList_app_sl encChk_len (by omega) encChk_one (l.take k) rfl (.const (.slice none 0 0)) (.tmp 25) rfl Try.underlying49 infoChk rfl rfl rfl (Own.nil (k := 3) (enc := encChk) wZ.heap.size wZ) hv2 (by have := HK1.out; simp; omega) (by omega) (Nat.le_refl _) ?_; intro v3 w3 ho3 hg3 hat3; have hb3 := below_row (Below.refl wZ.heap.size wZ) (Nat.le_refl _) (Nat.le_refl _) (Own.nil (k := 3) (enc := encChk) (e := 42) wZ.heap.size wZ) hg3; have hB3 := hB4.after hb3; have d0 := hB3.cell 0; have d1 := hB3.cell 1; have d2 := hB3.cell 2; rw [List.nil_append] at ho3)
        | (at_builtin; refine wpList_app encChk_len (by omega) encChk_one (W := _) x rfl (.tmp 27) (.tmp 29) rfl Try.underlying49 infoChk rfl rfl rfl rfl ho3 (by have := HK1.out; omega) (by omega) hb3.size ?_; intro v4 w4 ho4 hg4; have hb4 := below_row hb3 (Nat.le_refl _) hb3.size ho3 hg4; have hS5 := hide (hS4.out.after hb4))
        | (refine wpList_slFrom (k := 3) (enc := encChk) rfl (.tmp 32) (.tmp 33) rfl elemChk sizeChk rfl k rfl hS5.out (by omega) ?_; intro v5 hv5)
        | (at_builtin; refine wpList_app_sl encChk_len (by omega) encChk_one (l.drop k) rfl (.tmp 31) (.tmp 34) rfl Try.underlying49 infoChk rfl rfl rfl ho4 hv5 (by have := HK1.out; have := HK2.out; rw [List.length_append, List.length_singleton]; omega) (by omega) hb4.size ?_; intro v6 w6 ho6 hg6 hat6; have hb6 := below_row hb4 (Nat.le_refl _) hb4.size ho4 hg6))
      go_ret
      refine ⟨_, rfl, k, HPA.out, ?_, below_then hbW hbW.size (below_ext hbr hb6)⟩
      have hf := ho6.sl encChk_len
      rw [List.append_assoc] at hf
      exact hf
    · obtain ⟨j, rfl⟩ : ∃ j, k = j + 1 := ⟨k - 1, by omega⟩
      obtain ⟨y, hy⟩ : ∃ y, l[j]? = some y := ⟨_, List.getElem?_eq_getElem (by omega)⟩
      obtain ⟨b, off, rfl, hbl, hc⟩ := hA (by intro e; rw [e] at hy; simp at hy)
      obtain ⟨wq, hwq⟩ : ∃ wq, wq = wr := ⟨_, rfl⟩
      subst hwq
      have hBq := hB.after hbr
      have p0 := hBq.ext 0 rfl
      have p1 := hBq.ext 1 rfl
      have p2 := hBq.ext 2 rfl
      have y0 : ∀ w', Below wq.heap.size wq w' → w'.cell? ⟨b, off + j * 3, none⟩ = some (.int .i64 y.ep.1) := fun w' h => ((below_then hbW hbW.size (below_ext hbr h)).cell (p := ⟨b, _, none⟩) hbl).trans (hc j y hy 0 _ rfl)
      have y1 : ∀ w', Below wq.heap.size wq w' → w'.cell? ⟨b, off + j * 3 + 1, none⟩ = some (.int .u64 y.root.a.1) := fun w' h => ((below_then hbW hbW.size (below_ext hbr h)).cell (p := ⟨b, _, none⟩) hbl).trans (hc j y hy 1 _ rfl)
      have y2 : ∀ w', Below wq.heap.size wq w' → w'.cell? ⟨b, off + j * 3 + 2, none⟩ = some (.int .u64 y.root.b.1) := fun w' h => ((below_then hbW hbW.size (below_ext hbr h)).cell (p := ⟨b, _, none⟩) hbl).trans (hc j y hy 2 _ rfl)
      have HY := hide hy
      clear hy hc hA
      have i6 : (0 : Int) ≤ (j : Int) := by omega
      have i7 : (j : Int) < (l.length : Int) := by omega
      have hjd : decide ((j : Int) + 1 > 0) = true := decide_eq_true (by omega)
      have hjw : IntKind.i64.wrap (j : Int) = (j : Int) := IntWalk.i64_in _ (by omega)
      cases hlt : ltC x y with
      | true =>
        have HLT := hide hlt
        have HHI2 : Hid (∀ i z, j ≤ i → l[i]? = some z → ltC x z = true) := fun i z hi hz => by
          rcases Nat.eq_or_lt_of_le hi with rfl | h
          · rw [HY.out] at hz; cases hz; exact HLT.out
          · exact HHI.out i z h hz
        clear hlt
        go_wp2
        refine wp_region_held_drew (S := fun w' => Below wq.heap.size wq w') (by kernel_rfl) (below_drew wq) (fun hH => ?_)
        refine wpAnyH_take (i := 0) (oi := { dst := some 12, op := Go.Op.load 42 (Go.Operand.tmp 3), type := 42, pos := "ref.go:71", after := #[], guard := none }) (v := ?_) rfl (by kernel_rfl) (by kernel_rfl) (by kernel_rfl) (fun _ _ _ h => h) (Or.inl ⟨by rfl, ?hy⟩) hH ?_
        case hy => (intro w hSw; (try dsimp only at hSw); go_simp; try with_reducible rfl)
        try simp only [Act.put, List.setIfInBounds_toArray, List.set_cons_zero, List.set_cons_succ]
        refine wpAnyH_take (i := 1) (oi := { dst := some 13, op := Go.Op.move (Go.Operand.tmp 0), type := 49, pos := "ref.go:71", after := #[], guard := none }) (v := ?_) rfl (by kernel_rfl) (by kernel_rfl) (by kernel_rfl) (fun _ _ _ h => h) (Or.inl ⟨by rfl, ?hy⟩) hH ?_
        case hy => (intro w hSw; (try dsimp only at hSw); go_simp; try with_reducible rfl)
        try simp only [Act.put, List.setIfInBounds_toArray, List.set_cons_zero, List.set_cons_succ]
        refine wpAnyH_take (i := 2) (oi := { dst := some 14, op := Go.Op.move (Go.Operand.tmp 5), type := 3, pos := "ref.go:71", after := #[], guard := none }) (v := ?_) rfl (by kernel_rfl) (by kernel_rfl) (by kernel_rfl) (fun _ _ _ h => h) (Or.inl ⟨by rfl, ?hy⟩) hH ?_
        case hy => (intro w hSw; (try dsimp only at hSw); go_simp; try with_reducible rfl)
        try simp only [Act.put, List.setIfInBounds_toArray, List.set_cons_zero, List.set_cons_succ]
        refine wpAnyH_take (i := 3) (oi := { dst := some 15, op := Go.Op.binOp Go.BinOp.sub 3 (Go.Operand.tmp 14) (Go.Operand.const (Go.Value.int Go.IntKind.i64 1)) 3, type := 3, pos := "ref.go:71", after := #[{ on := 2, ground := Go.Ground.data }], guard := none }) (v := ?_) rfl (by kernel_rfl) (by kernel_rfl) (by kernel_rfl) (fun _ _ _ h => h) (Or.inl ⟨by rfl, ?hy⟩) hH ?_
        case hy => (intro w hSw; (try dsimp only at hSw); go_simp; try with_reducible rfl)
        try simp only [Act.put, List.setIfInBounds_toArray, List.set_cons_zero, List.set_cons_succ]
        refine wpAnyH_take (i := 4) (oi := { dst := some 16, op := Go.Op.indexAddr 49 (Go.Operand.tmp 13) (Go.Operand.tmp 15), type := 0, pos := "ref.go:71", after := #[{ on := 1, ground := Go.Ground.data }, { on := 3, ground := Go.Ground.data }], guard := none }) (v := ?_) rfl (by kernel_rfl) (by kernel_rfl) (by kernel_rfl) (fun _ _ _ h => h) (Or.inl ⟨by rfl, ?hy⟩) hH ?_
        case hy => (intro w hSw; (try dsimp only at hSw); go_simp; try with_reducible rfl)
        try simp only [Act.put, List.setIfInBounds_toArray, List.set_cons_zero, List.set_cons_succ]
        refine wpAnyH_take (i := 5) (oi := { dst := some 17, op := Go.Op.load 42 (Go.Operand.tmp 16), type := 42, pos := "ref.go:71", after := #[{ on := 4, ground := Go.Ground.data }], guard := none }) (v := ?_) rfl (by kernel_rfl) (by kernel_rfl) (by kernel_rfl) (fun _ _ _ h => h) (Or.inl ⟨by rfl, ?hy⟩) hH ?_
        case hy => (intro w hSw; (try dsimp only at hSw); go_simp; try with_reducible rfl)
        try simp only [Act.put, List.setIfInBounds_toArray, List.set_cons_zero, List.set_cons_succ]
        refine wpAnyH_ready (rs := [6]) (by kernel_rfl) (by simp) ?_
        refine (AllReadyH.cons (o := { dst := some 18, op := Go.Op.call { callee := Go.Callee.value (Go.Operand.func 116), args := #[Go.Operand.tmp 12, Go.Operand.tmp 17], argTypes := #[42, 42] }, type := 4, pos := "ref.go:71", after := #[{ on := 0, ground := Go.Ground.data }, { on := 5, ground := Go.Ground.data }], guard := none }) rfl (fun K hK => ?_) AllReadyH.nil)
        go_simp
        go_at_call 116
        refine (rlessC_any x y _).mono ?_
        rw [HLT.out]
        rintro e w5 ⟨rfl, hw5⟩
        try go_simp
        refine hK.out _ _ (below_ext hH hw5) (fun hH2 => ?_)
        clear hK K hH
        have hH := hH2
        clear hH2
        try simp only [Act.put, List.setIfInBounds_toArray, List.set_cons_zero, List.set_cons_succ]
        refine wpAnyH_take (i := 7) (oi := { dst := some 6, op := Go.Op.assign (Go.Operand.tmp 18), type := 4, pos := "ref.go:71", after := #[{ on := 6, ground := Go.Ground.data }, { on := 6, ground := Go.Ground.chain }, { on := 0, ground := Go.Ground.phase }, { on := 1, ground := Go.Ground.phase }, { on := 2, ground := Go.Ground.phase }, { on := 3, ground := Go.Ground.phase }, { on := 4, ground := Go.Ground.phase }, { on := 5, ground := Go.Ground.phase }, { on := 6, ground := Go.Ground.phase }], guard := none }) (v := ?_) rfl (by kernel_rfl) (by kernel_rfl) (by kernel_rfl) (fun _ _ _ h => h) (Or.inl ⟨by rfl, ?hy⟩) hH ?_
        case hy => (intro w hSw; (try dsimp only at hSw); go_simp; try with_reducible rfl)
        try simp only [Act.put, List.setIfInBounds_toArray, List.set_cons_zero, List.set_cons_succ]
        refine wpAnyH_done (by kernel_rfl) ?_ _
        have hbz := below_ext hbr hH
        clear hH hw5 p0 p1 p2 y0 y1 y2
        go_wp2
        go_roundw
        case rel => exact ⟨j, by omega, by go_num, HHI2.out, hbz⟩
        case measure => simp [intOf]; try omega
      | false =>
        have HLT := hide hlt
        have HPA : Hid (PutAt x l (j + 1)) := ⟨hk, HHI.out, .inr ⟨y, HY.out, HLT.out⟩⟩
        clear hlt
        go_wp2
        refine wp_region_held_drew (S := fun w' => Below wq.heap.size wq w') (by kernel_rfl) (below_drew wq) (fun hH => ?_)
        refine wpAnyH_take (i := 0) (oi := { dst := some 12, op := Go.Op.load 42 (Go.Operand.tmp 3), type := 42, pos := "ref.go:71", after := #[], guard := none }) (v := ?_) rfl (by kernel_rfl) (by kernel_rfl) (by kernel_rfl) (fun _ _ _ h => h) (Or.inl ⟨by rfl, ?hy⟩) hH ?_
        case hy => (intro w hSw; (try dsimp only at hSw); go_simp; try with_reducible rfl)
        try simp only [Act.put, List.setIfInBounds_toArray, List.set_cons_zero, List.set_cons_succ]
        refine wpAnyH_take (i := 1) (oi := { dst := some 13, op := Go.Op.move (Go.Operand.tmp 0), type := 49, pos := "ref.go:71", after := #[], guard := none }) (v := ?_) rfl (by kernel_rfl) (by kernel_rfl) (by kernel_rfl) (fun _ _ _ h => h) (Or.inl ⟨by rfl, ?hy⟩) hH ?_
        case hy => (intro w hSw; (try dsimp only at hSw); go_simp; try with_reducible rfl)
        try simp only [Act.put, List.setIfInBounds_toArray, List.set_cons_zero, List.set_cons_succ]
        refine wpAnyH_take (i := 2) (oi := { dst := some 14, op := Go.Op.move (Go.Operand.tmp 5), type := 3, pos := "ref.go:71", after := #[], guard := none }) (v := ?_) rfl (by kernel_rfl) (by kernel_rfl) (by kernel_rfl) (fun _ _ _ h => h) (Or.inl ⟨by rfl, ?hy⟩) hH ?_
        case hy => (intro w hSw; (try dsimp only at hSw); go_simp; try with_reducible rfl)
        try simp only [Act.put, List.setIfInBounds_toArray, List.set_cons_zero, List.set_cons_succ]
        refine wpAnyH_take (i := 3) (oi := { dst := some 15, op := Go.Op.binOp Go.BinOp.sub 3 (Go.Operand.tmp 14) (Go.Operand.const (Go.Value.int Go.IntKind.i64 1)) 3, type := 3, pos := "ref.go:71", after := #[{ on := 2, ground := Go.Ground.data }], guard := none }) (v := ?_) rfl (by kernel_rfl) (by kernel_rfl) (by kernel_rfl) (fun _ _ _ h => h) (Or.inl ⟨by rfl, ?hy⟩) hH ?_
        case hy => (intro w hSw; (try dsimp only at hSw); go_simp; try with_reducible rfl)
        try simp only [Act.put, List.setIfInBounds_toArray, List.set_cons_zero, List.set_cons_succ]
        refine wpAnyH_take (i := 4) (oi := { dst := some 16, op := Go.Op.indexAddr 49 (Go.Operand.tmp 13) (Go.Operand.tmp 15), type := 0, pos := "ref.go:71", after := #[{ on := 1, ground := Go.Ground.data }, { on := 3, ground := Go.Ground.data }], guard := none }) (v := ?_) rfl (by kernel_rfl) (by kernel_rfl) (by kernel_rfl) (fun _ _ _ h => h) (Or.inl ⟨by rfl, ?hy⟩) hH ?_
        case hy => (intro w hSw; (try dsimp only at hSw); go_simp; try with_reducible rfl)
        try simp only [Act.put, List.setIfInBounds_toArray, List.set_cons_zero, List.set_cons_succ]
        refine wpAnyH_take (i := 5) (oi := { dst := some 17, op := Go.Op.load 42 (Go.Operand.tmp 16), type := 42, pos := "ref.go:71", after := #[{ on := 4, ground := Go.Ground.data }], guard := none }) (v := ?_) rfl (by kernel_rfl) (by kernel_rfl) (by kernel_rfl) (fun _ _ _ h => h) (Or.inl ⟨by rfl, ?hy⟩) hH ?_
        case hy => (intro w hSw; (try dsimp only at hSw); go_simp; try with_reducible rfl)
        try simp only [Act.put, List.setIfInBounds_toArray, List.set_cons_zero, List.set_cons_succ]
        refine wpAnyH_ready (rs := [6]) (by kernel_rfl) (by simp) ?_
        refine (AllReadyH.cons (o := { dst := some 18, op := Go.Op.call { callee := Go.Callee.value (Go.Operand.func 116), args := #[Go.Operand.tmp 12, Go.Operand.tmp 17], argTypes := #[42, 42] }, type := 4, pos := "ref.go:71", after := #[{ on := 0, ground := Go.Ground.data }, { on := 5, ground := Go.Ground.data }], guard := none }) rfl (fun K hK => ?_) AllReadyH.nil)
        go_simp
        go_at_call 116
        refine (rlessC_any x y _).mono ?_
        rw [HLT.out]
        rintro e w5 ⟨rfl, hw5⟩
        try go_simp
        refine hK.out _ _ (below_ext hH hw5) (fun hH2 => ?_)
        clear hK K hH
        have hH := hH2
        clear hH2
        try simp only [Act.put, List.setIfInBounds_toArray, List.set_cons_zero, List.set_cons_succ]
        refine wpAnyH_take (i := 7) (oi := { dst := some 6, op := Go.Op.assign (Go.Operand.tmp 18), type := 4, pos := "ref.go:71", after := #[{ on := 6, ground := Go.Ground.data }, { on := 6, ground := Go.Ground.chain }, { on := 0, ground := Go.Ground.phase }, { on := 1, ground := Go.Ground.phase }, { on := 2, ground := Go.Ground.phase }, { on := 3, ground := Go.Ground.phase }, { on := 4, ground := Go.Ground.phase }, { on := 5, ground := Go.Ground.phase }, { on := 6, ground := Go.Ground.phase }], guard := none }) (v := ?_) rfl (by kernel_rfl) (by kernel_rfl) (by kernel_rfl) (fun _ _ _ h => h) (Or.inl ⟨by rfl, ?hy⟩) hH ?_
        case hy => (intro w hSw; (try dsimp only at hSw); go_simp; try with_reducible rfl)
        try simp only [Act.put, List.setIfInBounds_toArray, List.set_cons_zero, List.set_cons_succ]
        refine wpAnyH_done (by kernel_rfl) ?_ _
        have hbz := below_ext hbr hH
        clear hH hw5 p0 p1 p2 y0 y1 y2 hjd hjw h0
        obtain ⟨k, hkj⟩ : ∃ k, k = j + 1 := ⟨_, rfl⟩
        rw [← hkj] at hk HPA
        try rw [← hkj]
        try rw [show (j : Int) + 1 = (k : Int) by omega]
        clear hkj
        obtain ⟨wZ, hwZ⟩ : ∃ wZ, wZ = w5 := ⟨_, rfl⟩
        subst hwZ
        have hS4 := hide (HS.out.after (below_then hbW hbW.size hbz))
        have hB4 := hB.after hbz
        have c0 := hB4.cell 0
        have c1 := hB4.cell 1
        have c2 := hB4.cell 2
        have hkl : (l.take k).length = k := by rw [List.length_take]; omega
        have hkl2 : (l.drop k).length = l.length - k := by rw [List.length_drop]
        have HK1 := hide hkl
        have HK2 := hide hkl2
        clear hkl hkl2
        go_wp2_with (first
          | (refine wpList_slUpto (k := 3) (enc := encChk) rfl (.tmp 23) (.tmp 24) rfl elemChk sizeChk rfl k rfl hS4.out (by omega) ?_; intro v2 hv2)
          | (at_builtin; refine wpList_app_sl encChk_len (by omega) encChk_one (l.take k) rfl (.const (.slice none 0 0)) (.tmp 25) rfl Try.underlying49 infoChk rfl rfl rfl (Own.nil (k := 3) (enc := encChk) wZ.heap.size wZ) hv2 (by have := HK1.out; simp; omega) (by omega) (Nat.le_refl _) ?_; intro v3 w3 ho3 hg3 hat3; have hb3 := below_row (Below.refl wZ.heap.size wZ) (Nat.le_refl _) (Nat.le_refl _) (Own.nil (k := 3) (enc := encChk) (e := 42) wZ.heap.size wZ) hg3; have hB3 := hB4.after hb3; have d0 := hB3.cell 0; have d1 := hB3.cell 1; have d2 := hB3.cell 2; rw [List.nil_append] at ho3)
          | (at_builtin; refine wpList_app encChk_len (by omega) encChk_one (W := _) x rfl (.tmp 27) (.tmp 29) rfl Try.underlying49 infoChk rfl rfl rfl rfl ho3 (by have := HK1.out; omega) (by omega) hb3.size ?_; intro v4 w4 ho4 hg4; have hb4 := below_row hb3 (Nat.le_refl _) hb3.size ho3 hg4; have hS5 := hide (hS4.out.after hb4))
          | (refine wpList_slFrom (k := 3) (enc := encChk) rfl (.tmp 32) (.tmp 33) rfl elemChk sizeChk rfl k rfl hS5.out (by omega) ?_; intro v5 hv5)
          | (at_builtin; refine wpList_app_sl encChk_len (by omega) encChk_one (l.drop k) rfl (.tmp 31) (.tmp 34) rfl Try.underlying49 infoChk rfl rfl rfl ho4 hv5 (by have := HK1.out; have := HK2.out; rw [List.length_append, List.length_singleton]; omega) (by omega) hb4.size ?_; intro v6 w6 ho6 hg6 hat6; have hb6 := below_row hb4 (Nat.le_refl _) hb4.size ho4 hg6))
        go_ret
        refine ⟨_, rfl, k, HPA.out, ?_, below_then hbW hbW.size (below_ext hbz hb6)⟩
        have hf := ho6.sl encChk_len
        rw [List.append_assoc] at hf
        exact hf
end Go.Proofs.Ytbfjoakaofgapaa
