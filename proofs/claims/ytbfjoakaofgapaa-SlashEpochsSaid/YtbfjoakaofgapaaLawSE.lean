/- marigoldlaw12.SlashEpochs: whatever comes in, true. -/
import Derived.Test.YtbfjoakaofgapaaLawGr
import Derived.Test.YtbfjoakaofgapaaLaw12
namespace Go.Proofs.Ytbfjoakaofgapaa
set_option linter.unusedSimpArgs false
set_option linter.unusedVariables false
set_option linter.unusedSectionVars false
open Go Go.RowKit
set_option maxRecDepth 100000

set_option maxHeartbeats 4000000 in
theorem slashEpochs_any (c : Cnf) (v : Value) (l : List Blk) (vl : Value) (ls : List Lnk) (vs : Value) (w : World) (hC : CnfAt w v c) (hS : Sl 5 encBlk w vl l) (hL : Sl 7 encLnk w vs ls) :
    Calls Try.prog 12 #[v, vl, vs] w fun e w' => e = .returned (.bool true) ∧ Below w.heap.size w w' := by
  have HC := hide hC
  have HS := hide hS
  have HL := hide hL
  obtain ⟨s, rfl, hs⟩ := hC
  have hlen := hL.len_le
  obtain ⟨A, cap, rfl, hcap, hmax, hA⟩ := hL
  clear hs hS hA
  have HMax := hide hmax
  clear hmax
  go_enter Try.func12, Try.ntmps12
  go_wp2_with fail
  obtain ⟨W, hW⟩ : ∃ W, w.alloc (.cells #[s, .int .u64 c.seed.1, .int .i64 c.epoch.1, .int .i64 c.num.1, .int .i64 c.den.1] 25) = W := ⟨_, rfl⟩
  have hbW : Below w.heap.size w W := by rw [← hW]; exact below_alloc w _
  have hB : Blok W w.heap.size 25 #[s, .int .u64 c.seed.1, .int .i64 c.epoch.1, .int .i64 c.num.1, .int .i64 c.den.1] := by rw [← hW]; exact Blok.new _ _ _
  rw [hW]
  clear hW
  refine (awake12_any _).mono ?_
  rintro e w1 ⟨rfl, hb1⟩
  replace hB := hB.after hb1
  have hb := below_then hbW hbW.size hb1
  clear hbW hb1
  have r0 := hB.cell 0
  have r1 := hB.cell 1
  have r2 := hB.cell 2
  have r3 := hB.cell 3
  have r4 := hB.cell 4
  go_wp2_with fail
  refine (few11_any c _ l vl ls _ _ (HC.out.after hb) (HS.out.after hb) (HL.out.after hb)).mono ?_
  rintro e w2 ⟨rfl, hb2⟩
  replace hB := hB.after hb2
  replace hb := below_then hb hb.size hb2
  clear hb2 r0 r1 r2 r3 r4
  cases hf : few11 c l ls with
  | false =>
    go_wp2
    go_quiet (fail)
    go_wp2
    go_ret
    exact ⟨rfl, below_drewN hb _⟩
  | true =>
    obtain ⟨hn1, hn2, hn3⟩ := few11_iff hf
    clear hf
    have ht2 : 0 ≤ totalC c ∧ totalC c ≤ 13194139533312 := sumC_bd c (fun _ => true)
    obtain ⟨te, hte⟩ : ∃ te, totalC c = te := ⟨_, rfl⟩
    have HTE := hide hte
    rw [hte] at ht2
    clear hte
    have r0 := hB.ext 0 rfl
    have r1 := hB.ext 1 rfl
    have r2 := hB.ext 2 rfl
    have r3 := hB.ext 3 rfl
    have r4 := hB.ext 4 rfl
    go_wp2
    refine wp_region_held_drew (S := fun w' => Below w2.heap.size w2 w') (by kernel_rfl) (below_drew w2) (fun hH => ?_)
    refine wpAnyH_take (i := 0) (oi := { dst := some 16, op := Go.Op.move (Go.Operand.tmp 7), type := 4, pos := "law.go:89", after := #[], guard := none }) (v := ?_) rfl (by kernel_rfl) (by kernel_rfl) (by kernel_rfl) (fun _ _ _ h => h) (Or.inl ⟨by rfl, ?hy⟩) hH ?_
    case hy => (intro w hSw; (try dsimp only at hSw); go_simp; try with_reducible rfl)
    try simp only [Act.put, List.setIfInBounds_toArray, List.set_cons_zero, List.set_cons_succ]
    refine wpAnyH_take (i := 1) (oi := { dst := some 17, op := Go.Op.unOp Go.UnOp.not 4 (Go.Operand.tmp 16), type := 4, pos := "law.go:89", after := #[{ on := 0, ground := Go.Ground.data }], guard := none }) (v := ?_) rfl (by kernel_rfl) (by kernel_rfl) (by kernel_rfl) (fun _ _ _ h => h) (Or.inl ⟨by rfl, ?hy⟩) hH ?_
    case hy => (intro w hSw; (try dsimp only at hSw); go_simp; try with_reducible rfl)
    try simp only [Act.put, List.setIfInBounds_toArray, List.set_cons_zero, List.set_cons_succ]
    refine wpAnyH_take (i := 2) (oi := { dst := some 18, op := Go.Op.move (Go.Operand.tmp 17), type := 4, pos := "law.go:89", after := #[{ on := 1, ground := Go.Ground.data }], guard := none }) (v := ?_) rfl (by kernel_rfl) (by kernel_rfl) (by kernel_rfl) (fun _ _ _ h => h) (Or.inl ⟨by rfl, ?hy⟩) hH ?_
    case hy => (intro w hSw; (try dsimp only at hSw); go_simp; try with_reducible rfl)
    try simp only [Act.put, List.setIfInBounds_toArray, List.set_cons_zero, List.set_cons_succ]
    refine wpAnyH_take (i := 3) (oi := { dst := some 19, op := Go.Op.move (Go.Operand.tmp 8), type := 4, pos := "law.go:89", after := #[{ on := 2, ground := Go.Ground.guard }], guard := some (2, false) }) (v := ?_) rfl (by kernel_rfl) (by kernel_rfl) (by kernel_rfl) (fun _ _ _ h => h) (Or.inl ⟨by rfl, ?hy⟩) hH ?_
    case hy => (intro w hSw; (try dsimp only at hSw); go_simp; try with_reducible rfl)
    try simp only [Act.put, List.setIfInBounds_toArray, List.set_cons_zero, List.set_cons_succ]
    refine wpAnyH_take (i := 4) (oi := { dst := some 20, op := Go.Op.unOp Go.UnOp.not 4 (Go.Operand.tmp 19), type := 4, pos := "law.go:89", after := #[{ on := 3, ground := Go.Ground.data }, { on := 2, ground := Go.Ground.guard }], guard := some (2, false) }) (v := ?_) rfl (by kernel_rfl) (by kernel_rfl) (by kernel_rfl) (fun _ _ _ h => h) (Or.inl ⟨by rfl, ?hy⟩) hH ?_
    case hy => (intro w hSw; (try dsimp only at hSw); go_simp; try with_reducible rfl)
    try simp only [Act.put, List.setIfInBounds_toArray, List.set_cons_zero, List.set_cons_succ]
    refine wpAnyH_take (i := 5) (oi := { dst := some 21, op := Go.Op.pick (Go.Operand.tmp 18) (Go.Operand.const (Go.Value.bool true)) (Go.Operand.tmp 20), type := 4, pos := "law.go:89", after := #[{ on := 2, ground := Go.Ground.data }, { on := 4, ground := Go.Ground.data }], guard := none }) (v := ?_) rfl (by kernel_rfl) (by kernel_rfl) (by kernel_rfl) (fun _ _ _ h => h) (Or.inl ⟨by rfl, ?hy⟩) hH ?_
    case hy => (intro w hSw; (try dsimp only at hSw); go_simp; try with_reducible rfl)
    try simp only [Act.put, List.setIfInBounds_toArray, List.set_cons_zero, List.set_cons_succ]
    refine wpAnyH_take (i := 6) (oi := { dst := some 22, op := Go.Op.move (Go.Operand.tmp 21), type := 4, pos := "law.go:89", after := #[{ on := 5, ground := Go.Ground.data }, { on := 2, ground := Go.Ground.chain }], guard := none }) (v := ?_) rfl (by kernel_rfl) (by kernel_rfl) (by kernel_rfl) (fun _ _ _ h => h) (Or.inl ⟨by rfl, ?hy⟩) hH ?_
    case hy => (intro w hSw; (try dsimp only at hSw); go_simp; try with_reducible rfl)
    try simp only [Act.put, List.setIfInBounds_toArray, List.set_cons_zero, List.set_cons_succ]
    refine wpAnyH_take (i := 7) (oi := { dst := some 23, op := Go.Op.load 25 (Go.Operand.tmp 3), type := 25, pos := "law.go:89", after := #[{ on := 6, ground := Go.Ground.guard }], guard := some (6, false) }) (v := ?_) rfl (by kernel_rfl) (by kernel_rfl) (by kernel_rfl) (fun _ _ _ h => h) (Or.inl ⟨by rfl, ?hy⟩) hH ?_
    case hy => (intro w hSw; (try dsimp only at hSw); go_simp; try with_reducible rfl)
    try simp only [Act.put, List.setIfInBounds_toArray, List.set_cons_zero, List.set_cons_succ]
    refine wpAnyH_take (i := 8) (oi := { dst := some 24, op := Go.Op.move (Go.Operand.tmp 2), type := 40, pos := "law.go:89", after := #[{ on := 6, ground := Go.Ground.guard }], guard := some (6, false) }) (v := ?_) rfl (by kernel_rfl) (by kernel_rfl) (by kernel_rfl) (fun _ _ _ h => h) (Or.inl ⟨by rfl, ?hy⟩) hH ?_
    case hy => (intro w hSw; (try dsimp only at hSw); go_simp; try with_reducible rfl)
    try simp only [Act.put, List.setIfInBounds_toArray, List.set_cons_zero, List.set_cons_succ]
    refine wpAnyH_take (i := 12) (oi := { dst := some 28, op := Go.Op.load 25 (Go.Operand.tmp 3), type := 25, pos := "law.go:89", after := #[{ on := 6, ground := Go.Ground.guard }], guard := some (6, false) }) (v := ?_) rfl (by kernel_rfl) (by kernel_rfl) (by kernel_rfl) (fun _ _ _ h => h) (Or.inl ⟨by rfl, ?hy⟩) hH ?_
    case hy => (intro w hSw; (try dsimp only at hSw); go_simp; try with_reducible rfl)
    try simp only [Act.put, List.setIfInBounds_toArray, List.set_cons_zero, List.set_cons_succ]
    refine wpAnyH_ready (rs := [9]) (by kernel_rfl) (by simp) ?_
    refine (AllReadyH.cons (o := { dst := some 25, op := Go.Op.call { callee := Go.Callee.value (Go.Operand.func 49), args := #[Go.Operand.tmp 24], argTypes := #[40] }, type := 22, pos := "law.go:89", after := #[{ on := 8, ground := Go.Ground.data }, { on := 6, ground := Go.Ground.chain }, { on := 6, ground := Go.Ground.guard }], guard := some (6, false) }) rfl (fun K hK => ?_) AllReadyH.nil)
    go_simp
    go_at_call 49
    refine (guilty_any ls _ _ ((HL.out.after hb).after hH) (by omega)).mono ?_
    rintro e w4 ⟨⟨ug, g, rfl, hug, hgl, hgg⟩, hb4⟩
    have HGG := hide hgg
    clear hgl hgg
    try go_simp
    refine hK.out _ _ (below_ext hH hb4) (fun hH2 => ?_)
    clear hK K hH
    have hH := hH2
    clear hH2
    try simp only [Act.put, List.setIfInBounds_toArray, List.set_cons_zero, List.set_cons_succ]
    refine wpAnyH_ready (rs := [10]) (by kernel_rfl) (by simp) ?_
    refine (AllReadyH.cons (o := { dst := some 26, op := Go.Op.call { callee := Go.Callee.value (Go.Operand.func 34), args := #[Go.Operand.tmp 23, Go.Operand.tmp 25], argTypes := #[25, 22] }, type := 3, pos := "law.go:89", after := #[{ on := 7, ground := Go.Ground.data }, { on := 9, ground := Go.Ground.data }, { on := 9, ground := Go.Ground.chain }, { on := 6, ground := Go.Ground.guard }], guard := some (6, false) }) rfl (fun K hK => ?_) AllReadyH.nil)
    go_simp
    go_at_call 34
    refine (weight_any c _ g _ _ ((HC.out.after hb).after hH) hug).mono ?_
    obtain ⟨wg, hwg⟩ : ∃ wg, weightC c g = wg := ⟨_, rfl⟩
    rw [hwg]
    rintro e w5 ⟨rfl, hb5⟩
    have hw2 : 0 ≤ wg ∧ wg ≤ 13194139533312 := by rw [← hwg]; exact sumC_bd c (fun i => memI g (i.val : Int))
    have HWG := hide hwg
    clear hwg
    have m1 : IntKind.i64.wrap (3 * wg) = 3 * wg := IntWalk.i64_in _ (by omega)
    try go_simp
    refine hK.out _ _ (below_ext hH hb5) (fun hH2 => ?_)
    clear hK K hH
    have hH := hH2
    clear hH2
    try simp only [Act.put, List.setIfInBounds_toArray, List.set_cons_zero, List.set_cons_succ]
    refine wpAnyH_take (i := 11) (oi := { dst := some 27, op := Go.Op.binOp Go.BinOp.mul 3 (Go.Operand.const (Go.Value.int Go.IntKind.i64 3)) (Go.Operand.tmp 26) 3, type := 3, pos := "law.go:89", after := #[{ on := 10, ground := Go.Ground.data }, { on := 6, ground := Go.Ground.guard }], guard := some (6, false) }) (v := ?_) rfl (by kernel_rfl) (by kernel_rfl) (by kernel_rfl) (fun _ _ _ h => h) (Or.inl ⟨by rfl, ?hy⟩) hH ?_
    case hy => (intro w hSw; (try dsimp only at hSw); go_simp; try with_reducible rfl)
    try simp only [Act.put, List.setIfInBounds_toArray, List.set_cons_zero, List.set_cons_succ]
    refine wpAnyH_ready (rs := [13]) (by kernel_rfl) (by simp) ?_
    refine (AllReadyH.cons (o := { dst := some 29, op := Go.Op.call { callee := Go.Callee.value (Go.Operand.func 35), args := #[Go.Operand.tmp 28], argTypes := #[25] }, type := 3, pos := "law.go:89", after := #[{ on := 12, ground := Go.Ground.data }, { on := 10, ground := Go.Ground.chain }, { on := 6, ground := Go.Ground.guard }], guard := some (6, false) }) rfl (fun K hK => ?_) AllReadyH.nil)
    go_simp
    go_at_call 35
    refine (total_any c _ _ ((HC.out.after hb).after hH)).mono ?_
    rw [HTE.out]
    rintro e w6 ⟨rfl, hb6⟩
    try go_simp
    refine hK.out _ _ (below_ext hH hb6) (fun hH2 => ?_)
    clear hK K hH
    have hH := hH2
    clear hH2
    try simp only [Act.put, List.setIfInBounds_toArray, List.set_cons_zero, List.set_cons_succ]
    refine wpAnyH_take (i := 14) (oi := { dst := some 30, op := Go.Op.binOp Go.BinOp.geq 3 (Go.Operand.tmp 27) (Go.Operand.tmp 29) 3, type := 4, pos := "law.go:89", after := #[{ on := 11, ground := Go.Ground.data }, { on := 13, ground := Go.Ground.data }, { on := 6, ground := Go.Ground.guard }], guard := some (6, false) }) (v := ?_) rfl (by kernel_rfl) (by kernel_rfl) (by kernel_rfl) (fun _ _ _ h => h) (Or.inl ⟨by rfl, ?hy⟩) hH ?_
    case hy => (intro w hSw; (try dsimp only at hSw); go_simp; try with_reducible rfl)
    try simp only [Act.put, List.setIfInBounds_toArray, List.set_cons_zero, List.set_cons_succ]
    refine wpAnyH_take (i := 15) (oi := { dst := some 31, op := Go.Op.pick (Go.Operand.tmp 22) (Go.Operand.const (Go.Value.bool true)) (Go.Operand.tmp 30), type := 4, pos := "law.go:89", after := #[{ on := 6, ground := Go.Ground.data }, { on := 14, ground := Go.Ground.data }], guard := none }) (v := ?_) rfl (by kernel_rfl) (by kernel_rfl) (by kernel_rfl) (fun _ _ _ h => h) (Or.inl ⟨by rfl, ?hy⟩) hH ?_
    case hy => (intro w hSw; (try dsimp only at hSw); go_simp; try with_reducible rfl)
    try simp only [Act.put, List.setIfInBounds_toArray, List.set_cons_zero, List.set_cons_succ]
    refine wpAnyH_done (by kernel_rfl) ?_ _
    have hB' := hB.after hH
    have hb' := below_then hb hb.size hH
    clear hH hb4 hb5 hb6 hug m1 r0 r1 r2 r3 r4 hB hb
    by_cases hge : te ≤ 3 * wg
    · go_wp2
      go_ret
      exact ⟨rfl, hb'⟩
    · have hlt3 : 3 * wg < te := by omega
      have HLT : Hid (3 * weightC c g < totalC c) := by unfold Hid; rw [HWG.out, HTE.out]; exact hlt3
      clear hge
      have r0 := hB'.cell 0
      have r1 := hB'.cell 1
      have r2 := hB'.cell 2
      have r3 := hB'.cell 3
      have r4 := hB'.cell 4
      go_wp2_with fail
      refine (just_any2 c _ l vl ls _ _ (HC.out.after hb') (HS.out.after hb') (by omega) (HL.out.after hb') (by omega)).mono ?_
      rintro e w3 ⟨⟨u, js, rfl, hu, hj⟩, hb3⟩
      have HJ := hide hj
      have HU := hide hu
      have hb := below_then hb' hb'.size hb3
      have hjl := hu.len_le
      obtain ⟨A5, cap5, rfl, _, _, _⟩ := hu
      clear hb3 r0 r1 r2 r3 r4 hj hb' hB'
      go_wp2_with fail
      go_loopw [10] (fun i wr => ∃ j : Nat, (j + 1 ≤ js.length ∨ j = 0) ∧ i = .int .i64 ((j : Int) + 1) ∧ Below w3.heap.size w3 wr) (fun i _ => js.length + 1 - (intOf i).toNat)
      case atStart => exact ⟨0, .inr rfl, rfl, Below.refl _ _⟩
      case round =>
        obtain ⟨j, hj, rfl, hbr⟩ := hrel
        by_cases hlt : j + 1 < js.length
        · obtain ⟨x, hx⟩ : ∃ x, js[j + 1]? = some x := ⟨_, List.getElem?_eq_getElem hlt⟩
          obtain ⟨z, hz⟩ : ∃ z, js[j]? = some z := ⟨_, List.getElem?_eq_getElem (by omega)⟩
          have hne := slash_epochs HGG.out HLT.out HJ.out hz hx
          have ht : (x.ep.1 == z.ep.1) = false := by simp; exact fun e => hne e.symm
          obtain ⟨b, off, cap9, he9, hbl, hc⟩ := HU.out.read hx
          cases he9
          have x0 : wr.cell? ⟨b, off + (j + 1) * 3, none⟩ = some (.int .i64 x.ep.1) := (hbr.cell (p := ⟨b, _, none⟩) hbl).trans (hc (j + 1) x hx 0 _ rfl)
          have z0 : wr.cell? ⟨b, off + j * 3, none⟩ = some (.int .i64 z.ep.1) := (hbr.cell (p := ⟨b, _, none⟩) hbl).trans (hc j z hz 0 _ rfl)
          have i3 : (0 : Int) ≤ (j : Int) + 1 := by omega
          have i4 : (j : Int) + 1 < (js.length : Int) := by omega
          have i5 : ((j : Int) + 1).toNat = j + 1 := by omega
          have i6 : (0 : Int) ≤ (j : Int) := by omega
          have i7 : (j : Int) < (js.length : Int) := by omega
          clear hc hx hz hne
          go_wp2
          go_quiet (fail)
          go_wp2
          go_roundw
          case rel => exact ⟨j + 1, .inl (by omega), by go_num, below_drewN hbr _⟩
          case measure => simp [intOf]; omega
        · have hge : (js.length : Int) ≤ (j : Int) + 1 := by omega
          clear hj hlt
          go_wp2
          go_ret
          exact ⟨rfl, below_then hb hb.size hbr⟩
end Go.Proofs.Ytbfjoakaofgapaa
