/- The reference of layer 11: what is justified. -/
import Derived.Test.YtbfjoakaofgapaaRef11d
import Derived.Test.YtbfjoakaofgapaaAppSl
namespace Go.Proofs.Ytbfjoakaofgapaa
set_option linter.unusedSimpArgs false
set_option linter.unusedVariables false
set_option linter.unusedSectionVars false
open Go Go.RowKit
set_option maxRecDepth 100000

set_option maxHeartbeats 8000000 in
theorem rjust_any (c : Cnf) (v : Value) (l : List Blk) (vl : Value) (ls : List Lnk) (vs : Value) (w : World) (hC : CnfAt w v c) (hS : Sl 5 encBlk w vl l) (hl : l.length ≤ 900000) (hL : Sl 7 encLnk w vs ls) (hls : ls.length ≤ 400000) :
    Calls Try.prog 28 #[v, vl, vs] w fun e w' => JustEnd c l ls e w' ∧ Below w.heap.size w w' := by
  have HC := hide hC
  have HS := hide hS
  have HL := hide hL
  obtain ⟨s, rfl, hs⟩ := hC
  clear hs hS hL
  go_enter Try.func28, Try.ntmps28
  go_wp2_with fail
  obtain ⟨W, hW⟩ : ∃ W, w.alloc (.cells #[s, .int .u64 c.seed.1, .int .i64 c.epoch.1, .int .i64 c.num.1, .int .i64 c.den.1] 25) = W := ⟨_, rfl⟩
  have hbW : Below w.heap.size w W := by rw [← hW]; exact below_alloc w _
  have hB : Blok W w.heap.size 25 #[s, .int .u64 c.seed.1, .int .i64 c.epoch.1, .int .i64 c.num.1, .int .i64 c.den.1] := by rw [← hW]; exact Blok.new _ _ _
  rw [hW]
  clear hW
  refine (rmay_any c _ _ (HC.out.after hbW)).mono ?_
  rintro e w1 ⟨rfl, hb1⟩
  have hb := below_then hbW hbW.size hb1
  replace hB := hB.after hb1
  clear hbW hb1
  go_wp2_with fail
  refine (rmay64_any l _ _ (HS.out.after hb) hl).mono ?_
  rintro e w2 ⟨rfl, hb2⟩
  replace hb := below_then hb hb.size hb2
  replace hB := hB.after hb2
  clear hb2
  have r0 := hB.cell 0
  have r1 := hB.cell 1
  have r2 := hB.cell 2
  have r3 := hB.cell 3
  have r4 := hB.cell 4
  cases hm : mayC c with
  | false =>
    have HO : Hid (okC c l = false) := by unfold Hid okC; rw [hm]; rfl
    clear hm
    go_wp2
    go_ret
    exact ⟨⟨_, [], rfl, Sl.nil _, fun _ => rfl, fun h => by rw [HO.out] at h; cases h⟩, hb⟩
  | true =>
    have HM := hide hm
    clear hm
    cases hp : pl l with
    | none =>
      have HO : Hid (okC c l = false) := by unfold Hid okC; rw [hp]; simp
      clear hp
      go_wp2
      go_ret
      exact ⟨⟨_, [], rfl, Sl.nil _, fun _ => rfl, fun h => by rw [HO.out] at h; cases h⟩, hb⟩
    | some m =>
      have HO : Hid (okC c l = true) := by unfold Hid okC; rw [HM.out, hp]; rfl
      clear hp
      rw [show (some m).isSome = true from rfl]
      go_wp2_with fail
      refine (rfine_any c _ l vl ls vs _ (HC.out.after hb) (HS.out.after hb) hl (HL.out.after hb) (by omega)).mono ?_
      rintro e w3 ⟨vf, rfl, hvf, hb3⟩
      replace hb := below_then hb hb.size hb3
      replace hB := hB.after hb3
      clear hb3 r0 r1 r2 r3 r4
      have hfl : (fineL c l ls).length ≤ ls.length := List.length_filter_le _ _
      have HFN : Hid ((fineL c l ls).length ≤ 900000) := by unfold Hid; omega
      have hflen := hvf.len_le
      obtain ⟨w4, hw4⟩ : ∃ w4, w3.alloc (.cells #[.int .i64 0, .int .u64 0, .int .u64 0] 42) = w4 := ⟨_, rfl⟩
      have hb34 : Below w3.heap.size w3 w4 := by rw [← hw4]; exact below_alloc _ _
      have hO4 : Sl 3 encChk w4 (.slice (some ⟨w3.heap.size, 0, none⟩) 1 1) [Chk.zero] := by rw [← hw4]; exact Sl.of_blok encChk_len (Blok.new _ _ _) rfl (by simp [maxLen]) rfl
      replace hb := below_then hb hb.size hb34
      replace hB := hB.after hb34
      replace hvf := hvf.after hb34
      obtain ⟨n, hn⟩ : ∃ n, (fineL c l ls).length = n := ⟨_, rfl⟩
      obtain ⟨A, cap, hv, hcap, hmax, hA⟩ := id hvf
      rw [hn] at hv hfl hflen
      subst hv
      have HVF := hide hvf
      have HN := hide hn
      clear hvf hn hmax hcap
      go_wp2
      try rw [hw4]
      clear hw4 hb34
      go_loopw [9, 10, 11] (fun v9 i u11 wr => ∃ (k : Nat) (out : List Chk), k ≤ n + 1 ∧ i = .int .i64 k ∧ Sl 3 encChk wr v9 out ∧ JOut c l ls out k ∧ Below w4.heap.size w4 wr) (fun _ i _ _ => n + 2 - (intOf i).toNat)
      case atStart => exact ⟨0, [Chk.zero], by omega, rfl, hO4, JOut.start c l ls, Below.refl _ _⟩
      case round =>
        clear hO4
        obtain ⟨k, out0, hk, rfl, ho, hj, hbr⟩ := hrel
        have HJ := hide hj
        clear hj
        by_cases hle : k ≤ n
        · have hd : decide ((k : Int) ≤ (n : Int)) = true := decide_eq_true (by omega)
          have hd' : decide (k ≤ n) = true := decide_eq_true hle
          have HO9 := hide ho
          clear ho
          go_wp2_with fail
          go_loopw [9, 11] (fun v9 i wr => ∃ (j : Nat) (out : List Chk), j ≤ n ∧ i = .int .i64 j ∧ Sl 3 encChk wr v9 out ∧ JRound c l ls out0 out j ∧ Below w4.heap.size w4 wr) (fun _ i _ => n - (intOf i).toNat)
          case atStart => exact ⟨0, out0, Nat.zero_le _, rfl, HO9.out, JRound.start HJ.out.1, hbr⟩
          case round =>
            clear hbr HO9
            obtain ⟨j, out, hj, rfl, ho, hr, hbr⟩ := hrel
            have HR := hide hr
            clear hr
            by_cases hlt : j < n
            · obtain ⟨x, hx⟩ : ∃ x, (fineL c l ls)[j]? = some x := ⟨_, List.getElem?_eq_getElem (by rw [HN.out]; exact hlt)⟩
              obtain ⟨b, off, rfl, hbl, hc⟩ := hA (by intro h; rw [h] at hx; simp at hx)
              have HX := hide hx
              have HY0 : Hid (∀ w', Below w4.heap.size w4 w' → w'.cell? ⟨b, off + j * 7, none⟩ = some (.int .i64 x.frm.1)) := fun w' h => (h.cell (p := ⟨b, _, none⟩) hbl).trans (hc j x hx 0 _ rfl)
              have HY1 : Hid (∀ w', Below w4.heap.size w4 w' → w'.cell? ⟨b, off + j * 7 + 1, none⟩ = some (.int .i64 x.src.ep.1)) := fun w' h => (h.cell (p := ⟨b, _, none⟩) hbl).trans (hc j x hx 1 _ rfl)
              have HY2 : Hid (∀ w', Below w4.heap.size w4 w' → w'.cell? ⟨b, off + j * 7 + 2, none⟩ = some (.int .u64 x.src.root.a.1)) := fun w' h => (h.cell (p := ⟨b, _, none⟩) hbl).trans (hc j x hx 2 _ rfl)
              have HY3 : Hid (∀ w', Below w4.heap.size w4 w' → w'.cell? ⟨b, off + j * 7 + 3, none⟩ = some (.int .u64 x.src.root.b.1)) := fun w' h => (h.cell (p := ⟨b, _, none⟩) hbl).trans (hc j x hx 3 _ rfl)
              have HY4 : Hid (∀ w', Below w4.heap.size w4 w' → w'.cell? ⟨b, off + j * 7 + 4, none⟩ = some (.int .i64 x.tgt.ep.1)) := fun w' h => (h.cell (p := ⟨b, _, none⟩) hbl).trans (hc j x hx 4 _ rfl)
              have HY5 : Hid (∀ w', Below w4.heap.size w4 w' → w'.cell? ⟨b, off + j * 7 + 5, none⟩ = some (.int .u64 x.tgt.root.a.1)) := fun w' h => (h.cell (p := ⟨b, _, none⟩) hbl).trans (hc j x hx 5 _ rfl)
              have HY6 : Hid (∀ w', Below w4.heap.size w4 w' → w'.cell? ⟨b, off + j * 7 + 6, none⟩ = some (.int .u64 x.tgt.root.b.1)) := fun w' h => (h.cell (p := ⟨b, _, none⟩) hbl).trans (hc j x hx 6 _ rfl)
              have i6 : (0 : Int) ≤ (j : Int) := by omega
              have i7 : (j : Int) < (n : Int) := by omega
              clear hx hc hA
              have e0 := HY0.out wr (hbr)
              have e1 := HY1.out wr (hbr)
              have e2 := HY2.out wr (hbr)
              have e3 := HY3.out wr (hbr)
              have e4 := HY4.out wr (hbr)
              have e5 := HY5.out wr (hbr)
              have e6 := HY6.out wr (hbr)
              go_wp2_with fail
              refine (rhasC_any out _ x.src _ ho).mono ?_
              rintro e w5 ⟨rfl, hb5⟩
              have hb45 := below_ext hbr hb5
              have ho5 := ho.after hb5
              clear e0 e1 e2 e3 e4 e5 e6 hbr hb5 ho
              have e0 := HY0.out w5 (hb45)
              have e1 := HY1.out w5 (hb45)
              have e2 := HY2.out w5 (hb45)
              have e3 := HY3.out w5 (hb45)
              have e4 := HY4.out w5 (hb45)
              have e5 := HY5.out w5 (hb45)
              have e6 := HY6.out w5 (hb45)
              go_wp2_with fail
              refine (rhasC_any out _ x.tgt _ ho5).mono ?_
              rintro e w6 ⟨rfl, hb6'⟩
              have hb46 := below_ext hb45 hb6'
              have ho6 := ho5.after hb6'
              clear e0 e1 e2 e3 e4 e5 e6 hb45 hb6' ho5
              have hb6 := below_then hb hb.size hb46
              by_cases hs1 : x.src ∈ out
              · rw [decide_eq_true hs1]
                have HS1 := hide hs1
                clear hs1
                by_cases hs2 : x.tgt ∈ out
                · rw [decide_eq_true hs2]
                  have HR2 := hide (HR.out.skip HX.out (fun h => h.2.1 hs2))
                  clear hs2
                  go_wp2
                  go_roundw
                  case rel => exact ⟨j + 1, out, by omega, by go_num, ho6, HR2.out, hb46⟩
                  case measure => simp [intOf]; omega
                · rw [decide_eq_false hs2]
                  have HS2 := hide hs2
                  clear hs2
                  have hB6 := hB.after hb46
                  have r0 := hB6.ext 0 rfl
                  have r1 := hB6.ext 1 rfl
                  have r2 := hB6.ext 2 rfl
                  have r3 := hB6.ext 3 rfl
                  have r4 := hB6.ext 4 rfl
                  have y0 : ∀ w', Below w6.heap.size w6 w' → w'.cell? ⟨b, off + j * 7, none⟩ = some (.int .i64 x.frm.1) := fun w' h => HY0.out w' (below_ext hb46 h)
                  have y1 : ∀ w', Below w6.heap.size w6 w' → w'.cell? ⟨b, off + j * 7 + 1, none⟩ = some (.int .i64 x.src.ep.1) := fun w' h => HY1.out w' (below_ext hb46 h)
                  have y2 : ∀ w', Below w6.heap.size w6 w' → w'.cell? ⟨b, off + j * 7 + 2, none⟩ = some (.int .u64 x.src.root.a.1) := fun w' h => HY2.out w' (below_ext hb46 h)
                  have y3 : ∀ w', Below w6.heap.size w6 w' → w'.cell? ⟨b, off + j * 7 + 3, none⟩ = some (.int .u64 x.src.root.b.1) := fun w' h => HY3.out w' (below_ext hb46 h)
                  have y4 : ∀ w', Below w6.heap.size w6 w' → w'.cell? ⟨b, off + j * 7 + 4, none⟩ = some (.int .i64 x.tgt.ep.1) := fun w' h => HY4.out w' (below_ext hb46 h)
                  have y5 : ∀ w', Below w6.heap.size w6 w' → w'.cell? ⟨b, off + j * 7 + 5, none⟩ = some (.int .u64 x.tgt.root.a.1) := fun w' h => HY5.out w' (below_ext hb46 h)
                  have y6 : ∀ w', Below w6.heap.size w6 w' → w'.cell? ⟨b, off + j * 7 + 6, none⟩ = some (.int .u64 x.tgt.root.b.1) := fun w' h => HY6.out w' (below_ext hb46 h)
                  cases hst : strongB c l ls ⟨x.src, x.tgt⟩ with
                  | true =>
                    have HST := hide hst
                    clear hst
                    go_wp2
                    refine wp_region_held_drew (S := fun w' => Below w6.heap.size w6 w') (by kernel_rfl) (below_drew w6) (fun hH => ?_)
                    refine wpAnyH_take (i := 0) (oi := { dst := some 62, op := Go.Op.load 25 (Go.Operand.tmp 3), type := 25, pos := "ref.go:98", after := #[], guard := none }) (v := ?_) rfl (by kernel_rfl) (by kernel_rfl) (by kernel_rfl) (fun _ _ _ h => h) (Or.inl ⟨by rfl, ?hy⟩) hH ?_
                    case hy => (intro w hSw; (try dsimp only at hSw); go_simp; try with_reducible rfl)
                    try simp only [Act.put, List.setIfInBounds_toArray, List.set_cons_zero, List.set_cons_succ]
                    refine wpAnyH_take (i := 1) (oi := { dst := some 63, op := Go.Op.move (Go.Operand.tmp 2), type := 40, pos := "ref.go:98", after := #[], guard := none }) (v := ?_) rfl (by kernel_rfl) (by kernel_rfl) (by kernel_rfl) (fun _ _ _ h => h) (Or.inl ⟨by rfl, ?hy⟩) hH ?_
                    case hy => (intro w hSw; (try dsimp only at hSw); go_simp; try with_reducible rfl)
                    try simp only [Act.put, List.setIfInBounds_toArray, List.set_cons_zero, List.set_cons_succ]
                    refine wpAnyH_take (i := 2) (oi := { dst := some 64, op := Go.Op.move (Go.Operand.tmp 2), type := 40, pos := "ref.go:98", after := #[], guard := none }) (v := ?_) rfl (by kernel_rfl) (by kernel_rfl) (by kernel_rfl) (fun _ _ _ h => h) (Or.inl ⟨by rfl, ?hy⟩) hH ?_
                    case hy => (intro w hSw; (try dsimp only at hSw); go_simp; try with_reducible rfl)
                    try simp only [Act.put, List.setIfInBounds_toArray, List.set_cons_zero, List.set_cons_succ]
                    refine wpAnyH_take (i := 3) (oi := { dst := some 65, op := Go.Op.move (Go.Operand.tmp 11), type := 3, pos := "ref.go:98", after := #[], guard := none }) (v := ?_) rfl (by kernel_rfl) (by kernel_rfl) (by kernel_rfl) (fun _ _ _ h => h) (Or.inl ⟨by rfl, ?hy⟩) hH ?_
                    case hy => (intro w hSw; (try dsimp only at hSw); go_simp; try with_reducible rfl)
                    try simp only [Act.put, List.setIfInBounds_toArray, List.set_cons_zero, List.set_cons_succ]
                    refine wpAnyH_take (i := 4) (oi := { dst := some 66, op := Go.Op.indexAddr 40 (Go.Operand.tmp 64) (Go.Operand.tmp 65), type := 0, pos := "ref.go:98", after := #[{ on := 2, ground := Go.Ground.data }, { on := 3, ground := Go.Ground.data }], guard := none }) (v := ?_) rfl (by kernel_rfl) (by kernel_rfl) (by kernel_rfl) (fun _ _ _ h => h) (Or.inl ⟨by rfl, ?hy⟩) hH ?_
                    case hy => (intro w hSw; (try dsimp only at hSw); go_simp; try with_reducible rfl)
                    try simp only [Act.put, List.setIfInBounds_toArray, List.set_cons_zero, List.set_cons_succ]
                    refine wpAnyH_take (i := 5) (oi := { dst := some 67, op := Go.Op.fieldAddr 44 (Go.Operand.tmp 66) 1, type := 0, pos := "ref.go:98", after := #[{ on := 4, ground := Go.Ground.data }], guard := none }) (v := ?_) rfl (by kernel_rfl) (by kernel_rfl) (by kernel_rfl) (fun _ _ _ h => h) (Or.inl ⟨by rfl, ?hy⟩) hH ?_
                    case hy => (intro w hSw; (try dsimp only at hSw); go_simp; try with_reducible rfl)
                    try simp only [Act.put, List.setIfInBounds_toArray, List.set_cons_zero, List.set_cons_succ]
                    refine wpAnyH_take (i := 6) (oi := { dst := some 68, op := Go.Op.load 42 (Go.Operand.tmp 67), type := 42, pos := "ref.go:98", after := #[{ on := 5, ground := Go.Ground.data }], guard := none }) (v := ?_) rfl (by kernel_rfl) (by kernel_rfl) (by kernel_rfl) (fun _ _ _ h => h) (Or.inl ⟨by rfl, ?hy⟩) hH ?_
                    case hy => (intro w hSw; (try dsimp only at hSw); go_simp; try with_reducible rfl)
                    try simp only [Act.put, List.setIfInBounds_toArray, List.set_cons_zero, List.set_cons_succ]
                    refine wpAnyH_take (i := 7) (oi := { dst := some 69, op := Go.Op.move (Go.Operand.tmp 2), type := 40, pos := "ref.go:98", after := #[], guard := none }) (v := ?_) rfl (by kernel_rfl) (by kernel_rfl) (by kernel_rfl) (fun _ _ _ h => h) (Or.inl ⟨by rfl, ?hy⟩) hH ?_
                    case hy => (intro w hSw; (try dsimp only at hSw); go_simp; try with_reducible rfl)
                    try simp only [Act.put, List.setIfInBounds_toArray, List.set_cons_zero, List.set_cons_succ]
                    refine wpAnyH_take (i := 8) (oi := { dst := some 70, op := Go.Op.move (Go.Operand.tmp 11), type := 3, pos := "ref.go:98", after := #[], guard := none }) (v := ?_) rfl (by kernel_rfl) (by kernel_rfl) (by kernel_rfl) (fun _ _ _ h => h) (Or.inl ⟨by rfl, ?hy⟩) hH ?_
                    case hy => (intro w hSw; (try dsimp only at hSw); go_simp; try with_reducible rfl)
                    try simp only [Act.put, List.setIfInBounds_toArray, List.set_cons_zero, List.set_cons_succ]
                    refine wpAnyH_take (i := 9) (oi := { dst := some 71, op := Go.Op.indexAddr 40 (Go.Operand.tmp 69) (Go.Operand.tmp 70), type := 0, pos := "ref.go:98", after := #[{ on := 7, ground := Go.Ground.data }, { on := 8, ground := Go.Ground.data }], guard := none }) (v := ?_) rfl (by kernel_rfl) (by kernel_rfl) (by kernel_rfl) (fun _ _ _ h => h) (Or.inl ⟨by rfl, ?hy⟩) hH ?_
                    case hy => (intro w hSw; (try dsimp only at hSw); go_simp; try with_reducible rfl)
                    try simp only [Act.put, List.setIfInBounds_toArray, List.set_cons_zero, List.set_cons_succ]
                    refine wpAnyH_take (i := 10) (oi := { dst := some 72, op := Go.Op.fieldAddr 44 (Go.Operand.tmp 71) 2, type := 0, pos := "ref.go:98", after := #[{ on := 9, ground := Go.Ground.data }], guard := none }) (v := ?_) rfl (by kernel_rfl) (by kernel_rfl) (by kernel_rfl) (fun _ _ _ h => h) (Or.inl ⟨by rfl, ?hy⟩) hH ?_
                    case hy => (intro w hSw; (try dsimp only at hSw); go_simp; try with_reducible rfl)
                    try simp only [Act.put, List.setIfInBounds_toArray, List.set_cons_zero, List.set_cons_succ]
                    refine wpAnyH_take (i := 11) (oi := { dst := some 73, op := Go.Op.load 42 (Go.Operand.tmp 72), type := 42, pos := "ref.go:98", after := #[{ on := 10, ground := Go.Ground.data }], guard := none }) (v := ?_) rfl (by kernel_rfl) (by kernel_rfl) (by kernel_rfl) (fun _ _ _ h => h) (Or.inl ⟨by rfl, ?hy⟩) hH ?_
                    case hy => (intro w hSw; (try dsimp only at hSw); go_simp; try with_reducible rfl)
                    try simp only [Act.put, List.setIfInBounds_toArray, List.set_cons_zero, List.set_cons_succ]
                    refine wpAnyH_ready (rs := [12]) (by kernel_rfl) (by simp) ?_
                    refine (AllReadyH.cons (o := { dst := some 74, op := Go.Op.call { callee := Go.Callee.value (Go.Operand.func 66), args := #[Go.Operand.tmp 62, Go.Operand.tmp 63, Go.Operand.tmp 68, Go.Operand.tmp 73], argTypes := #[25, 40, 42, 42] }, type := 4, pos := "ref.go:98", after := #[{ on := 0, ground := Go.Ground.data }, { on := 1, ground := Go.Ground.data }, { on := 6, ground := Go.Ground.data }, { on := 11, ground := Go.Ground.data }], guard := none }) rfl (fun K hK => ?_) AllReadyH.nil)
                    go_simp
                    go_at_call 66
                    refine (rstrong_any c _ (fineL c l ls) _ x.src x.tgt _ ((HC.out.after hb6).after hH) ((HVF.out.after hb46).after hH) HFN.out).mono ?_
                    rw [strongL_fine, HST.out]
                    rintro e w7 ⟨rfl, hw7⟩
                    try go_simp
                    refine hK.out _ _ (below_ext hH hw7) (fun hH2 => ?_)
                    clear hK K hH
                    have hH := hH2
                    clear hH2
                    try simp only [Act.put, List.setIfInBounds_toArray, List.set_cons_zero, List.set_cons_succ]
                    refine wpAnyH_take (i := 13) (oi := { dst := some 14, op := Go.Op.assign (Go.Operand.tmp 74), type := 4, pos := "ref.go:98", after := #[{ on := 12, ground := Go.Ground.data }, { on := 12, ground := Go.Ground.chain }, { on := 0, ground := Go.Ground.phase }, { on := 1, ground := Go.Ground.phase }, { on := 2, ground := Go.Ground.phase }, { on := 3, ground := Go.Ground.phase }, { on := 4, ground := Go.Ground.phase }, { on := 5, ground := Go.Ground.phase }, { on := 6, ground := Go.Ground.phase }, { on := 7, ground := Go.Ground.phase }, { on := 8, ground := Go.Ground.phase }, { on := 9, ground := Go.Ground.phase }, { on := 10, ground := Go.Ground.phase }, { on := 11, ground := Go.Ground.phase }, { on := 12, ground := Go.Ground.phase }], guard := none }) (v := ?_) rfl (by kernel_rfl) (by kernel_rfl) (by kernel_rfl) (fun _ _ _ h => h) (Or.inl ⟨by rfl, ?hy⟩) hH ?_
                    case hy => (intro w hSw; (try dsimp only at hSw); go_simp; try with_reducible rfl)
                    try simp only [Act.put, List.setIfInBounds_toArray, List.set_cons_zero, List.set_cons_succ]
                    refine wpAnyH_done (by kernel_rfl) ?_ _
                    have hb47 := below_ext hb46 hH
                    have ho7 := ho6.after hH
                    clear hH hw7 r0 r1 r2 r3 r4 y0 y1 y2 y3 y4 y5 y6
                    have e0 := HY0.out w7 (hb47)
                    have e1 := HY1.out w7 (hb47)
                    have e2 := HY2.out w7 (hb47)
                    have e3 := HY3.out w7 (hb47)
                    have e4 := HY4.out w7 (hb47)
                    have e5 := HY5.out w7 (hb47)
                    have e6 := HY6.out w7 (hb47)
                    have HLN : Hid (out.length ≤ 450000) := by unfold Hid; have := HR.out.1.len; have := HN.out; omega
                    go_wp2_with fail
                    refine (rput_any out _ x.tgt _ ho7 HLN.out).mono ?_
                    rintro e w8 ⟨u, kp, rfl, hpa, ho8, hb8⟩
                    have HR2 := hide (HR.out.put HS1.out HS2.out HST.out hpa)
                    have hb48 := below_ext hb47 hb8
                    clear e0 e1 e2 e3 e4 e5 e6 hb47 hb8 ho7 hpa
                    go_wp2
                    go_roundw
                    case rel => exact ⟨j + 1, _, by omega, by go_num, ho8, HR2.out, hb48⟩
                    case measure => simp [intOf]; omega
                  | false =>
                    have HST := hide hst
                    have HR2 := hide (HR.out.skip HX.out (fun h => by have := h.2.2; unfold wayOf at this; rw [hst] at this; cases this))
                    clear hst
                    go_wp2
                    refine wp_region_held_drew (S := fun w' => Below w6.heap.size w6 w') (by kernel_rfl) (below_drew w6) (fun hH => ?_)
                    refine wpAnyH_take (i := 0) (oi := { dst := some 62, op := Go.Op.load 25 (Go.Operand.tmp 3), type := 25, pos := "ref.go:98", after := #[], guard := none }) (v := ?_) rfl (by kernel_rfl) (by kernel_rfl) (by kernel_rfl) (fun _ _ _ h => h) (Or.inl ⟨by rfl, ?hy⟩) hH ?_
                    case hy => (intro w hSw; (try dsimp only at hSw); go_simp; try with_reducible rfl)
                    try simp only [Act.put, List.setIfInBounds_toArray, List.set_cons_zero, List.set_cons_succ]
                    refine wpAnyH_take (i := 1) (oi := { dst := some 63, op := Go.Op.move (Go.Operand.tmp 2), type := 40, pos := "ref.go:98", after := #[], guard := none }) (v := ?_) rfl (by kernel_rfl) (by kernel_rfl) (by kernel_rfl) (fun _ _ _ h => h) (Or.inl ⟨by rfl, ?hy⟩) hH ?_
                    case hy => (intro w hSw; (try dsimp only at hSw); go_simp; try with_reducible rfl)
                    try simp only [Act.put, List.setIfInBounds_toArray, List.set_cons_zero, List.set_cons_succ]
                    refine wpAnyH_take (i := 2) (oi := { dst := some 64, op := Go.Op.move (Go.Operand.tmp 2), type := 40, pos := "ref.go:98", after := #[], guard := none }) (v := ?_) rfl (by kernel_rfl) (by kernel_rfl) (by kernel_rfl) (fun _ _ _ h => h) (Or.inl ⟨by rfl, ?hy⟩) hH ?_
                    case hy => (intro w hSw; (try dsimp only at hSw); go_simp; try with_reducible rfl)
                    try simp only [Act.put, List.setIfInBounds_toArray, List.set_cons_zero, List.set_cons_succ]
                    refine wpAnyH_take (i := 3) (oi := { dst := some 65, op := Go.Op.move (Go.Operand.tmp 11), type := 3, pos := "ref.go:98", after := #[], guard := none }) (v := ?_) rfl (by kernel_rfl) (by kernel_rfl) (by kernel_rfl) (fun _ _ _ h => h) (Or.inl ⟨by rfl, ?hy⟩) hH ?_
                    case hy => (intro w hSw; (try dsimp only at hSw); go_simp; try with_reducible rfl)
                    try simp only [Act.put, List.setIfInBounds_toArray, List.set_cons_zero, List.set_cons_succ]
                    refine wpAnyH_take (i := 4) (oi := { dst := some 66, op := Go.Op.indexAddr 40 (Go.Operand.tmp 64) (Go.Operand.tmp 65), type := 0, pos := "ref.go:98", after := #[{ on := 2, ground := Go.Ground.data }, { on := 3, ground := Go.Ground.data }], guard := none }) (v := ?_) rfl (by kernel_rfl) (by kernel_rfl) (by kernel_rfl) (fun _ _ _ h => h) (Or.inl ⟨by rfl, ?hy⟩) hH ?_
                    case hy => (intro w hSw; (try dsimp only at hSw); go_simp; try with_reducible rfl)
                    try simp only [Act.put, List.setIfInBounds_toArray, List.set_cons_zero, List.set_cons_succ]
                    refine wpAnyH_take (i := 5) (oi := { dst := some 67, op := Go.Op.fieldAddr 44 (Go.Operand.tmp 66) 1, type := 0, pos := "ref.go:98", after := #[{ on := 4, ground := Go.Ground.data }], guard := none }) (v := ?_) rfl (by kernel_rfl) (by kernel_rfl) (by kernel_rfl) (fun _ _ _ h => h) (Or.inl ⟨by rfl, ?hy⟩) hH ?_
                    case hy => (intro w hSw; (try dsimp only at hSw); go_simp; try with_reducible rfl)
                    try simp only [Act.put, List.setIfInBounds_toArray, List.set_cons_zero, List.set_cons_succ]
                    refine wpAnyH_take (i := 6) (oi := { dst := some 68, op := Go.Op.load 42 (Go.Operand.tmp 67), type := 42, pos := "ref.go:98", after := #[{ on := 5, ground := Go.Ground.data }], guard := none }) (v := ?_) rfl (by kernel_rfl) (by kernel_rfl) (by kernel_rfl) (fun _ _ _ h => h) (Or.inl ⟨by rfl, ?hy⟩) hH ?_
                    case hy => (intro w hSw; (try dsimp only at hSw); go_simp; try with_reducible rfl)
                    try simp only [Act.put, List.setIfInBounds_toArray, List.set_cons_zero, List.set_cons_succ]
                    refine wpAnyH_take (i := 7) (oi := { dst := some 69, op := Go.Op.move (Go.Operand.tmp 2), type := 40, pos := "ref.go:98", after := #[], guard := none }) (v := ?_) rfl (by kernel_rfl) (by kernel_rfl) (by kernel_rfl) (fun _ _ _ h => h) (Or.inl ⟨by rfl, ?hy⟩) hH ?_
                    case hy => (intro w hSw; (try dsimp only at hSw); go_simp; try with_reducible rfl)
                    try simp only [Act.put, List.setIfInBounds_toArray, List.set_cons_zero, List.set_cons_succ]
                    refine wpAnyH_take (i := 8) (oi := { dst := some 70, op := Go.Op.move (Go.Operand.tmp 11), type := 3, pos := "ref.go:98", after := #[], guard := none }) (v := ?_) rfl (by kernel_rfl) (by kernel_rfl) (by kernel_rfl) (fun _ _ _ h => h) (Or.inl ⟨by rfl, ?hy⟩) hH ?_
                    case hy => (intro w hSw; (try dsimp only at hSw); go_simp; try with_reducible rfl)
                    try simp only [Act.put, List.setIfInBounds_toArray, List.set_cons_zero, List.set_cons_succ]
                    refine wpAnyH_take (i := 9) (oi := { dst := some 71, op := Go.Op.indexAddr 40 (Go.Operand.tmp 69) (Go.Operand.tmp 70), type := 0, pos := "ref.go:98", after := #[{ on := 7, ground := Go.Ground.data }, { on := 8, ground := Go.Ground.data }], guard := none }) (v := ?_) rfl (by kernel_rfl) (by kernel_rfl) (by kernel_rfl) (fun _ _ _ h => h) (Or.inl ⟨by rfl, ?hy⟩) hH ?_
                    case hy => (intro w hSw; (try dsimp only at hSw); go_simp; try with_reducible rfl)
                    try simp only [Act.put, List.setIfInBounds_toArray, List.set_cons_zero, List.set_cons_succ]
                    refine wpAnyH_take (i := 10) (oi := { dst := some 72, op := Go.Op.fieldAddr 44 (Go.Operand.tmp 71) 2, type := 0, pos := "ref.go:98", after := #[{ on := 9, ground := Go.Ground.data }], guard := none }) (v := ?_) rfl (by kernel_rfl) (by kernel_rfl) (by kernel_rfl) (fun _ _ _ h => h) (Or.inl ⟨by rfl, ?hy⟩) hH ?_
                    case hy => (intro w hSw; (try dsimp only at hSw); go_simp; try with_reducible rfl)
                    try simp only [Act.put, List.setIfInBounds_toArray, List.set_cons_zero, List.set_cons_succ]
                    refine wpAnyH_take (i := 11) (oi := { dst := some 73, op := Go.Op.load 42 (Go.Operand.tmp 72), type := 42, pos := "ref.go:98", after := #[{ on := 10, ground := Go.Ground.data }], guard := none }) (v := ?_) rfl (by kernel_rfl) (by kernel_rfl) (by kernel_rfl) (fun _ _ _ h => h) (Or.inl ⟨by rfl, ?hy⟩) hH ?_
                    case hy => (intro w hSw; (try dsimp only at hSw); go_simp; try with_reducible rfl)
                    try simp only [Act.put, List.setIfInBounds_toArray, List.set_cons_zero, List.set_cons_succ]
                    refine wpAnyH_ready (rs := [12]) (by kernel_rfl) (by simp) ?_
                    refine (AllReadyH.cons (o := { dst := some 74, op := Go.Op.call { callee := Go.Callee.value (Go.Operand.func 66), args := #[Go.Operand.tmp 62, Go.Operand.tmp 63, Go.Operand.tmp 68, Go.Operand.tmp 73], argTypes := #[25, 40, 42, 42] }, type := 4, pos := "ref.go:98", after := #[{ on := 0, ground := Go.Ground.data }, { on := 1, ground := Go.Ground.data }, { on := 6, ground := Go.Ground.data }, { on := 11, ground := Go.Ground.data }], guard := none }) rfl (fun K hK => ?_) AllReadyH.nil)
                    go_simp
                    go_at_call 66
                    refine (rstrong_any c _ (fineL c l ls) _ x.src x.tgt _ ((HC.out.after hb6).after hH) ((HVF.out.after hb46).after hH) HFN.out).mono ?_
                    rw [strongL_fine, HST.out]
                    rintro e w7 ⟨rfl, hw7⟩
                    try go_simp
                    refine hK.out _ _ (below_ext hH hw7) (fun hH2 => ?_)
                    clear hK K hH
                    have hH := hH2
                    clear hH2
                    try simp only [Act.put, List.setIfInBounds_toArray, List.set_cons_zero, List.set_cons_succ]
                    refine wpAnyH_take (i := 13) (oi := { dst := some 14, op := Go.Op.assign (Go.Operand.tmp 74), type := 4, pos := "ref.go:98", after := #[{ on := 12, ground := Go.Ground.data }, { on := 12, ground := Go.Ground.chain }, { on := 0, ground := Go.Ground.phase }, { on := 1, ground := Go.Ground.phase }, { on := 2, ground := Go.Ground.phase }, { on := 3, ground := Go.Ground.phase }, { on := 4, ground := Go.Ground.phase }, { on := 5, ground := Go.Ground.phase }, { on := 6, ground := Go.Ground.phase }, { on := 7, ground := Go.Ground.phase }, { on := 8, ground := Go.Ground.phase }, { on := 9, ground := Go.Ground.phase }, { on := 10, ground := Go.Ground.phase }, { on := 11, ground := Go.Ground.phase }, { on := 12, ground := Go.Ground.phase }], guard := none }) (v := ?_) rfl (by kernel_rfl) (by kernel_rfl) (by kernel_rfl) (fun _ _ _ h => h) (Or.inl ⟨by rfl, ?hy⟩) hH ?_
                    case hy => (intro w hSw; (try dsimp only at hSw); go_simp; try with_reducible rfl)
                    try simp only [Act.put, List.setIfInBounds_toArray, List.set_cons_zero, List.set_cons_succ]
                    refine wpAnyH_done (by kernel_rfl) ?_ _
                    have hb47 := below_ext hb46 hH
                    have ho7 := ho6.after hH
                    clear hH hw7 r0 r1 r2 r3 r4 y0 y1 y2 y3 y4 y5 y6
                    go_wp2
                    go_roundw
                    case rel => exact ⟨j + 1, out, by omega, by go_num, ho7, HR2.out, hb47⟩
                    case measure => simp [intOf]; omega
              · rw [decide_eq_false hs1]
                have HR2 := hide (HR.out.skip HX.out (fun h => hs1 h.1))
                clear hs1
                go_wp2
                go_roundw
                case rel => exact ⟨j + 1, out, by omega, by go_num, ho6, HR2.out, hb46⟩
                case measure => simp [intOf]; omega
            · have hjn : j = n := by omega
              subst hjn
              have HJ2 := hide (HJ.out.next HR.out HN.out.symm)
              clear hlt hA
              go_wp2
              go_roundw
              case rel => exact ⟨k + 1, out, by omega, by go_num, ho, HJ2.out, hbr⟩
              case measure => simp [intOf]; omega
        · have hkn : k = n + 1 := by omega
          have HJI := hide (HJ.out.just (by rw [HN.out]; exact hkn) HO.out)
          have hd : decide ((k : Int) ≤ (n : Int)) = false := decide_eq_false (by omega)
          have hd' : decide (k ≤ n) = false := decide_eq_false hle
          have HO9 := hide ho
          clear hkn hle ho hA
          go_wp2
          go_ret
          exact ⟨⟨_, out0, rfl, HO9.out, HJI.out⟩, below_then hb hb.size hbr⟩
end Go.Proofs.Ytbfjoakaofgapaa
