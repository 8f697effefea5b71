/- marigoldlaw11.FfgGrounds: whatever comes in, true. -/
import Derived.Test.YtbfjoakaofgapaaLawEp
namespace Go.Proofs.Ytbfjoakaofgapaa
set_option linter.unusedSimpArgs false
set_option linter.unusedVariables false
set_option linter.unusedSectionVars false
open Go Go.RowKit
set_option maxRecDepth 100000

theorem Sl.read {α : Type} {k : Nat} {enc : α → List Value} {w : World} {v : Value} {xs : List α} (h : Sl k enc w v xs) {j : Nat} {x : α} (hx : xs[j]? = some x) :
    ∃ b off cap, v = .slice (some ⟨b, off, none⟩) xs.length cap ∧ b < w.heap.size ∧ ∀ j x, xs[j]? = some x → ∀ i u, (enc x)[i]? = some u → w.cell? ⟨b, off + j * k + i, none⟩ = some u := by
  obtain ⟨A, cap, rfl, _, _, hA⟩ := h
  obtain ⟨b, off, rfl, hb, hc⟩ := hA (by intro e; rw [e] at hx; simp at hx)
  exact ⟨b, off, cap, rfl, hb, hc⟩
def groundB (c : Cnf) (l : List Blk) (v : List Lnk) (x y : Chk) : Bool := decide (y.ep.1 < x.ep.1) && (under l y.root x.root && strongB c l v ⟨y, x⟩)
theorem ground_any {c : Cnf} {l : List Blk} {v : List Lnk} {js : List Chk} (hj : JustIs c l v js) {i : Nat} {x : Chk} (hx : js[i]? = some x) (hi : 1 ≤ i) : (js.take i).any (groundB c l v x) = true := by
  obtain ⟨k, y, hk, hy, h1, h2, h3⟩ := just_ground hj hx hi
  rw [List.any_eq_true]
  exact ⟨y, List.mem_of_getElem? (i := k) (by rw [List.getElem?_take_of_lt hk]; exact hy), by unfold groundB; rw [decide_eq_true h1, h2, h3]; rfl⟩
set_option maxHeartbeats 4000000 in
theorem ffgGrounds_any (c : Cnf) (v : Value) (l : List Blk) (vl : Value) (ls : List Lnk) (vs : Value) (w : World) (hC : CnfAt w v c) (hS : Sl 5 encBlk w vl l) (hL : Sl 7 encLnk w vs ls) :
    Calls Try.prog 6 #[v, vl, vs] w fun e w' => e = .returned (.bool true) ∧ Below w.heap.size w w' := by
  have HC := hide hC
  have HS := hide hS
  have HL := hide hL
  obtain ⟨s, rfl, hs⟩ := hC
  have hlen := hL.len_le
  obtain ⟨A, cap, rfl, hcap, hmax, hA⟩ := hL
  clear hs hS hA
  have HMax := hide hmax
  clear hmax
  go_enter Try.func6, Try.ntmps6
  go_wp2_with fail
  obtain ⟨W, hW⟩ : ∃ W, w.alloc (.cells #[s, .int .u64 c.seed.1, .int .i64 c.epoch.1, .int .i64 c.num.1, .int .i64 c.den.1] 25) = W := ⟨_, rfl⟩
  have hbW : Below w.heap.size w W := by rw [← hW]; exact below_alloc w _
  have hB : Blok W w.heap.size 25 #[s, .int .u64 c.seed.1, .int .i64 c.epoch.1, .int .i64 c.num.1, .int .i64 c.den.1] := by rw [← hW]; exact Blok.new _ _ _
  rw [hW]
  clear hW
  refine (awake_any _).mono ?_
  rintro e w1 ⟨rfl, hb1⟩
  replace hB := hB.after hb1
  have hb := below_then hbW hbW.size hb1
  clear hbW hb1
  have r0 := hB.cell 0
  have r1 := hB.cell 1
  have r2 := hB.cell 2
  have r3 := hB.cell 3
  have r4 := hB.cell 4
  go_wp2_with fail
  refine (few11_any c _ l vl ls _ _ (HC.out.after hb) (HS.out.after hb) (HL.out.after hb)).mono ?_
  rintro e w2 ⟨rfl, hb2⟩
  replace hB := hB.after hb2
  replace hb := below_then hb hb.size hb2
  clear hb2 r0 r1 r2 r3 r4
  cases hf : few11 c l ls with
  | false =>
    go_wp2
    go_ret
    exact ⟨rfl, hb⟩
  | true =>
    obtain ⟨hn1, hn2, hn3⟩ := few11_iff hf
    clear hf
    have r0 := hB.cell 0
    have r1 := hB.cell 1
    have r2 := hB.cell 2
    have r3 := hB.cell 3
    have r4 := hB.cell 4
    go_wp2_with fail
    refine (just_any2 c _ l vl ls _ _ (HC.out.after hb) (HS.out.after hb) (by omega) (HL.out.after hb) (by omega)).mono ?_
    rintro e w3 ⟨⟨u, js, rfl, hu, hj⟩, hb3⟩
    have HJ := hide hj
    have HU := hide hu
    replace hB := hB.after hb3
    replace hb := below_then hb hb.size hb3
    have hjl := hu.len_le
    obtain ⟨A5, cap5, rfl, _, _, _⟩ := hu
    clear hb3 r0 r1 r2 r3 r4 hj
    go_wp2_with fail
    go_loopw [10, 11, 12] (fun i u11 u12 wr => ∃ j : Nat, (j + 1 ≤ js.length ∨ j = 0) ∧ i = .int .i64 ((j : Int) + 1) ∧ Below w3.heap.size w3 wr) (fun i _ _ _ => js.length + 1 - (intOf i).toNat)
    case atStart => exact ⟨0, .inr rfl, rfl, Below.refl _ _⟩
    case round =>
      obtain ⟨j, hj, rfl, hbr⟩ := hrel
      by_cases hlt : j + 1 < js.length
      · obtain ⟨x, hx⟩ : ∃ x, js[j + 1]? = some x := ⟨_, List.getElem?_eq_getElem hlt⟩
        obtain ⟨z, hz⟩ : ∃ z, js[j]? = some z := ⟨_, List.getElem?_eq_getElem (by omega)⟩
        have HG := hide (ground_any HJ.out hx (by omega))
        have HO := hide (just_order HJ.out hz hx)
        obtain ⟨b, off, cap9, he9, hbl, hc⟩ := HU.out.read hx
        cases he9
        have rx : ∀ i u, (encChk x)[i]? = some u → ∀ w', Below w3.heap.size w3 w' → w'.cell? ⟨b, off + (j + 1) * 3 + i, none⟩ = some u := fun i u hu w' h => (h.cell (p := ⟨b, _, none⟩) hbl).trans (hc (j + 1) x hx i u hu)
        have x0 : ∀ w', Below w3.heap.size w3 w' → w'.cell? ⟨b, off + (j + 1) * 3, none⟩ = some (.int .i64 x.ep.1) := rx 0 _ rfl
        have x1 := rx 1 _ rfl
        have x2 := rx 2 _ rfl
        have rz : ∀ i u, (encChk z)[i]? = some u → ∀ w', Below w3.heap.size w3 w' → w'.cell? ⟨b, off + j * 3 + i, none⟩ = some u := fun i u hu w' h => (h.cell (p := ⟨b, _, none⟩) hbl).trans (hc j z hz i u hu)
        have z0 : ∀ w', Below w3.heap.size w3 w' → w'.cell? ⟨b, off + j * 3, none⟩ = some (.int .i64 z.ep.1) := rz 0 _ rfl
        have z1 := rz 1 _ rfl
        have z2 := rz 2 _ rfl
        have HX0 := hide x0
        have HX1 := hide x1
        have HX2 := hide x2
        have HZ0 := hide z0
        have HZ1 := hide z1
        have HZ2 := hide z2
        have HCC := hide hc
        clear rx rz x0 x1 x2 z0 z1 z2 hc hx hz
        have i4 : (j : Int) + 1 < (js.length : Int) := by omega
        go_wp2_with fail
        obtain ⟨wo, hwo⟩ : ∃ wo, wo = wr := ⟨_, rfl⟩
        subst hwo
        go_loopw [11, 12] (fun g i wr => ∃ k : Nat, k ≤ j + 1 ∧ i = .int .i64 k ∧ g = .bool ((js.take k).any (groundB c l ls x)) ∧ Below w3.heap.size w3 wr) (fun _ i _ => j + 1 - (intOf i).toNat)
        case atStart => exact ⟨0, Nat.zero_le _, rfl, rfl, hbr⟩
        case round =>
          clear hbr
          obtain ⟨k, hk, rfl, rfl, hbr⟩ := hrel
          by_cases hkj : k < j + 1
          · obtain ⟨y, hy⟩ : ∃ y, js[k]? = some y := ⟨_, List.getElem?_eq_getElem (by omega)⟩
            have hkl : k < js.length := by omega
            have ry : ∀ i u, (encChk y)[i]? = some u → ∀ w', Below wr.heap.size wr w' → w'.cell? ⟨b, off + k * 3 + i, none⟩ = some u := fun i u hu w' h => ((below_then hbr hbr.size h).cell (p := ⟨b, _, none⟩) hbl).trans (HCC.out k y hy i u hu)
            have y0 : ∀ w', Below wr.heap.size wr w' → w'.cell? ⟨b, off + k * 3, none⟩ = some (.int .i64 y.ep.1) := ry 0 _ rfl
            have y1 := ry 1 _ rfl
            have y2 := ry 2 _ rfl
            have x0 : ∀ w', Below wr.heap.size wr w' → w'.cell? ⟨b, off + (j + 1) * 3, none⟩ = some (.int .i64 x.ep.1) := fun w' h => HX0.out w' (below_then hbr hbr.size h)
            have x1 : ∀ w', Below wr.heap.size wr w' → w'.cell? ⟨b, off + (j + 1) * 3 + 1, none⟩ = some (.int .u64 x.root.a.1) := fun w' h => HX1.out w' (below_then hbr hbr.size h)
            have x2 : ∀ w', Below wr.heap.size wr w' → w'.cell? ⟨b, off + (j + 1) * 3 + 2, none⟩ = some (.int .u64 x.root.b.1) := fun w' h => HX2.out w' (below_then hbr hbr.size h)
            have f0 := y0 wr (Below.refl _ _)
            have f1 := y1 wr (Below.refl _ _)
            have f2 := y2 wr (Below.refl _ _)
            have g0 := x0 wr (Below.refl _ _)
            have g1 := x1 wr (Below.refl _ _)
            have g2 := x2 wr (Below.refl _ _)
            have i1 : (0 : Int) ≤ (k : Int) := by omega
            have i2 : (k : Int) < (js.length : Int) := by omega
            have i3 : (0 : Int) ≤ (j : Int) + 1 := by omega
            have i5 : ((j : Int) + 1).toNat = j + 1 := by omega
            have i6 : (0 : Int) ≤ (j : Int) := by omega
            have i7 : (j : Int) < (js.length : Int) := by omega
            have HT := hide (any_snoc hy (groundB c l ls x))
            clear hy ry
            cases hp : (js.take k).any (groundB c l ls x) with
            | true =>
              have HE : Hid ((js.take (k + 1)).any (groundB c l ls x) = true) := by unfold Hid; rw [HT.out, hp]; rfl
              clear hp HT y0 y1 y2 x0 x1 x2
              go_wp2
              go_quiet (fail)
              go_wp2
              go_roundw
              case rel => exact ⟨k + 1, by omega, by go_num, by rw [HE.out], below_drewN hbr _⟩
              case measure => simp [intOf]; omega
            | false =>
              have HP := hide hp
              clear hp
              by_cases h1 : y.ep.1 < x.ep.1
              · have hB' := hB.after hbr
                have r0 := hB'.ext 0 rfl
                have r1 := hB'.ext 1 rfl
                have r2 := hB'.ext 2 rfl
                have r3 := hB'.ext 3 rfl
                have r4 := hB'.ext 4 rfl
                clear f0 f1 f2 g0 g1 g2
                cases hun : under l y.root x.root with
                | false =>
                  have HUn := hide hun
                  have HE : Hid ((js.take (k + 1)).any (groundB c l ls x) = false) := by unfold Hid; rw [HT.out, HP.out]; unfold groundB; rw [hun]; simp
                  clear hun HT
                  obtain ⟨wq, hwq⟩ : ∃ wq, wq = wr := ⟨_, rfl⟩
                  subst hwq
                  go_wp2
                  refine wp_region_held_drew (S := fun w' => Below wq.heap.size wq w') (by kernel_rfl) (below_drew wq) (fun hH => ?_)
                  refine wpAnyH_take (i := 0) (oi := { dst := some 40, op := Go.Op.move (Go.Operand.tmp 11), type := 4, pos := "law.go:81", after := #[], guard := none }) (v := ?_) rfl (by kernel_rfl) (by kernel_rfl) (by kernel_rfl) (fun _ _ _ h => h) (Or.inl ⟨by rfl, ?hy⟩) hH ?_
                  case hy => (intro w hSw; (try dsimp only at hSw); go_simp; try with_reducible rfl)
                  try simp only [Act.put, List.setIfInBounds_toArray, List.set_cons_zero, List.set_cons_succ]
                  refine wpAnyH_take (i := 1) (oi := { dst := some 41, op := Go.Op.move (Go.Operand.tmp 40), type := 4, pos := "law.go:81", after := #[{ on := 0, ground := Go.Ground.data }], guard := none }) (v := ?_) rfl (by kernel_rfl) (by kernel_rfl) (by kernel_rfl) (fun _ _ _ h => h) (Or.inl ⟨by rfl, ?hy⟩) hH ?_
                  case hy => (intro w hSw; (try dsimp only at hSw); go_simp; try with_reducible rfl)
                  try simp only [Act.put, List.setIfInBounds_toArray, List.set_cons_zero, List.set_cons_succ]
                  refine wpAnyH_take (i := 2) (oi := { dst := some 42, op := Go.Op.move (Go.Operand.tmp 9), type := 49, pos := "law.go:81", after := #[{ on := 1, ground := Go.Ground.guard }], guard := some (1, false) }) (v := ?_) rfl (by kernel_rfl) (by kernel_rfl) (by kernel_rfl) (fun _ _ _ h => h) (Or.inl ⟨by rfl, ?hy⟩) hH ?_
                  case hy => (intro w hSw; (try dsimp only at hSw); go_simp; try with_reducible rfl)
                  try simp only [Act.put, List.setIfInBounds_toArray, List.set_cons_zero, List.set_cons_succ]
                  refine wpAnyH_take (i := 3) (oi := { dst := some 43, op := Go.Op.move (Go.Operand.tmp 12), type := 3, pos := "law.go:81", after := #[{ on := 1, ground := Go.Ground.guard }], guard := some (1, false) }) (v := ?_) rfl (by kernel_rfl) (by kernel_rfl) (by kernel_rfl) (fun _ _ _ h => h) (Or.inl ⟨by rfl, ?hy⟩) hH ?_
                  case hy => (intro w hSw; (try dsimp only at hSw); go_simp; try with_reducible rfl)
                  try simp only [Act.put, List.setIfInBounds_toArray, List.set_cons_zero, List.set_cons_succ]
                  refine wpAnyH_take (i := 4) (oi := { dst := some 44, op := Go.Op.indexAddr 49 (Go.Operand.tmp 42) (Go.Operand.tmp 43), type := 0, pos := "law.go:81", after := #[{ on := 2, ground := Go.Ground.data }, { on := 3, ground := Go.Ground.data }, { on := 1, ground := Go.Ground.guard }], guard := some (1, false) }) (v := ?_) rfl (by kernel_rfl) (by kernel_rfl) (by kernel_rfl) (fun _ _ _ h => h) (Or.inl ⟨by rfl, ?hy⟩) hH ?_
                  case hy => (intro w hSw; (try dsimp only at hSw); go_simp; try with_reducible rfl)
                  try simp only [Act.put, List.setIfInBounds_toArray, List.set_cons_zero, List.set_cons_succ]
                  refine wpAnyH_take (i := 5) (oi := { dst := some 45, op := Go.Op.fieldAddr 42 (Go.Operand.tmp 44) 0, type := 0, pos := "law.go:81", after := #[{ on := 4, ground := Go.Ground.data }, { on := 1, ground := Go.Ground.guard }], guard := some (1, false) }) (v := ?_) rfl (by kernel_rfl) (by kernel_rfl) (by kernel_rfl) (fun _ _ _ h => h) (Or.inl ⟨by rfl, ?hy⟩) hH ?_
                  case hy => (intro w hSw; (try dsimp only at hSw); go_simp; try with_reducible rfl)
                  try simp only [Act.put, List.setIfInBounds_toArray, List.set_cons_zero, List.set_cons_succ]
                  refine wpAnyH_take (i := 6) (oi := { dst := some 46, op := Go.Op.load 3 (Go.Operand.tmp 45), type := 3, pos := "law.go:81", after := #[{ on := 5, ground := Go.Ground.data }, { on := 1, ground := Go.Ground.guard }], guard := some (1, false) }) (v := ?_) rfl (by kernel_rfl) (by kernel_rfl) (by kernel_rfl) (fun _ _ _ h => h) (Or.inl ⟨by rfl, ?hy⟩) hH ?_
                  case hy => (intro w hSw; (try dsimp only at hSw); go_simp; try with_reducible rfl)
                  try simp only [Act.put, List.setIfInBounds_toArray, List.set_cons_zero, List.set_cons_succ]
                  refine wpAnyH_take (i := 7) (oi := { dst := some 47, op := Go.Op.move (Go.Operand.tmp 9), type := 49, pos := "law.go:81", after := #[{ on := 1, ground := Go.Ground.guard }], guard := some (1, false) }) (v := ?_) rfl (by kernel_rfl) (by kernel_rfl) (by kernel_rfl) (fun _ _ _ h => h) (Or.inl ⟨by rfl, ?hy⟩) hH ?_
                  case hy => (intro w hSw; (try dsimp only at hSw); go_simp; try with_reducible rfl)
                  try simp only [Act.put, List.setIfInBounds_toArray, List.set_cons_zero, List.set_cons_succ]
                  refine wpAnyH_take (i := 8) (oi := { dst := some 48, op := Go.Op.move (Go.Operand.tmp 10), type := 3, pos := "law.go:81", after := #[{ on := 1, ground := Go.Ground.guard }], guard := some (1, false) }) (v := ?_) rfl (by kernel_rfl) (by kernel_rfl) (by kernel_rfl) (fun _ _ _ h => h) (Or.inl ⟨by rfl, ?hy⟩) hH ?_
                  case hy => (intro w hSw; (try dsimp only at hSw); go_simp; try with_reducible rfl)
                  try simp only [Act.put, List.setIfInBounds_toArray, List.set_cons_zero, List.set_cons_succ]
                  refine wpAnyH_take (i := 9) (oi := { dst := some 49, op := Go.Op.indexAddr 49 (Go.Operand.tmp 47) (Go.Operand.tmp 48), type := 0, pos := "law.go:81", after := #[{ on := 7, ground := Go.Ground.data }, { on := 8, ground := Go.Ground.data }, { on := 1, ground := Go.Ground.guard }], guard := some (1, false) }) (v := ?_) rfl (by kernel_rfl) (by kernel_rfl) (by kernel_rfl) (fun _ _ _ h => h) (Or.inl ⟨by rfl, ?hy⟩) hH ?_
                  case hy => (intro w hSw; (try dsimp only at hSw); go_simp; try with_reducible rfl)
                  try simp only [Act.put, List.setIfInBounds_toArray, List.set_cons_zero, List.set_cons_succ]
                  refine wpAnyH_take (i := 10) (oi := { dst := some 50, op := Go.Op.fieldAddr 42 (Go.Operand.tmp 49) 0, type := 0, pos := "law.go:81", after := #[{ on := 9, ground := Go.Ground.data }, { on := 1, ground := Go.Ground.guard }], guard := some (1, false) }) (v := ?_) rfl (by kernel_rfl) (by kernel_rfl) (by kernel_rfl) (fun _ _ _ h => h) (Or.inl ⟨by rfl, ?hy⟩) hH ?_
                  case hy => (intro w hSw; (try dsimp only at hSw); go_simp; try with_reducible rfl)
                  try simp only [Act.put, List.setIfInBounds_toArray, List.set_cons_zero, List.set_cons_succ]
                  refine wpAnyH_take (i := 11) (oi := { dst := some 51, op := Go.Op.load 3 (Go.Operand.tmp 50), type := 3, pos := "law.go:81", after := #[{ on := 10, ground := Go.Ground.data }, { on := 1, ground := Go.Ground.guard }], guard := some (1, false) }) (v := ?_) rfl (by kernel_rfl) (by kernel_rfl) (by kernel_rfl) (fun _ _ _ h => h) (Or.inl ⟨by rfl, ?hy⟩) hH ?_
                  case hy => (intro w hSw; (try dsimp only at hSw); go_simp; try with_reducible rfl)
                  try simp only [Act.put, List.setIfInBounds_toArray, List.set_cons_zero, List.set_cons_succ]
                  refine wpAnyH_take (i := 12) (oi := { dst := some 52, op := Go.Op.binOp Go.BinOp.lss 3 (Go.Operand.tmp 46) (Go.Operand.tmp 51) 3, type := 4, pos := "law.go:81", after := #[{ on := 6, ground := Go.Ground.data }, { on := 11, ground := Go.Ground.data }, { on := 1, ground := Go.Ground.guard }], guard := some (1, false) }) (v := ?_) rfl (by kernel_rfl) (by kernel_rfl) (by kernel_rfl) (fun _ _ _ h => h) (Or.inl ⟨by rfl, ?hy⟩) hH ?_
                  case hy => (intro w hSw; (try dsimp only at hSw); go_simp; try with_reducible rfl)
                  try simp only [Act.put, List.setIfInBounds_toArray, List.set_cons_zero, List.set_cons_succ]
                  refine wpAnyH_take (i := 13) (oi := { dst := some 53, op := Go.Op.move (Go.Operand.tmp 52), type := 4, pos := "law.go:81", after := #[{ on := 12, ground := Go.Ground.data }, { on := 1, ground := Go.Ground.chain }, { on := 1, ground := Go.Ground.guard }], guard := some (1, false) }) (v := ?_) rfl (by kernel_rfl) (by kernel_rfl) (by kernel_rfl) (fun _ _ _ h => h) (Or.inl ⟨by rfl, ?hy⟩) hH ?_
                  case hy => (intro w hSw; (try dsimp only at hSw); go_simp; try with_reducible rfl)
                  try simp only [Act.put, List.setIfInBounds_toArray, List.set_cons_zero, List.set_cons_succ]
                  refine wpAnyH_take (i := 14) (oi := { dst := some 54, op := Go.Op.move (Go.Operand.tmp 1), type := 26, pos := "law.go:81", after := #[{ on := 13, ground := Go.Ground.guard }], guard := some (13, true) }) (v := ?_) rfl (by kernel_rfl) (by kernel_rfl) (by kernel_rfl) (fun _ _ _ h => h) (Or.inl ⟨by rfl, ?hy⟩) hH ?_
                  case hy => (intro w hSw; (try dsimp only at hSw); go_simp; try with_reducible rfl)
                  try simp only [Act.put, List.setIfInBounds_toArray, List.set_cons_zero, List.set_cons_succ]
                  refine wpAnyH_take (i := 15) (oi := { dst := some 55, op := Go.Op.move (Go.Operand.tmp 9), type := 49, pos := "law.go:81", after := #[{ on := 13, ground := Go.Ground.guard }], guard := some (13, true) }) (v := ?_) rfl (by kernel_rfl) (by kernel_rfl) (by kernel_rfl) (fun _ _ _ h => h) (Or.inl ⟨by rfl, ?hy⟩) hH ?_
                  case hy => (intro w hSw; (try dsimp only at hSw); go_simp; try with_reducible rfl)
                  try simp only [Act.put, List.setIfInBounds_toArray, List.set_cons_zero, List.set_cons_succ]
                  refine wpAnyH_take (i := 16) (oi := { dst := some 56, op := Go.Op.move (Go.Operand.tmp 12), type := 3, pos := "law.go:81", after := #[{ on := 13, ground := Go.Ground.guard }], guard := some (13, true) }) (v := ?_) rfl (by kernel_rfl) (by kernel_rfl) (by kernel_rfl) (fun _ _ _ h => h) (Or.inl ⟨by rfl, ?hy⟩) hH ?_
                  case hy => (intro w hSw; (try dsimp only at hSw); go_simp; try with_reducible rfl)
                  try simp only [Act.put, List.setIfInBounds_toArray, List.set_cons_zero, List.set_cons_succ]
                  refine wpAnyH_take (i := 17) (oi := { dst := some 57, op := Go.Op.indexAddr 49 (Go.Operand.tmp 55) (Go.Operand.tmp 56), type := 0, pos := "law.go:81", after := #[{ on := 15, ground := Go.Ground.data }, { on := 16, ground := Go.Ground.data }, { on := 13, ground := Go.Ground.guard }], guard := some (13, true) }) (v := ?_) rfl (by kernel_rfl) (by kernel_rfl) (by kernel_rfl) (fun _ _ _ h => h) (Or.inl ⟨by rfl, ?hy⟩) hH ?_
                  case hy => (intro w hSw; (try dsimp only at hSw); go_simp; try with_reducible rfl)
                  try simp only [Act.put, List.setIfInBounds_toArray, List.set_cons_zero, List.set_cons_succ]
                  refine wpAnyH_take (i := 18) (oi := { dst := some 58, op := Go.Op.fieldAddr 42 (Go.Operand.tmp 57) 1, type := 0, pos := "law.go:81", after := #[{ on := 17, ground := Go.Ground.data }, { on := 13, ground := Go.Ground.guard }], guard := some (13, true) }) (v := ?_) rfl (by kernel_rfl) (by kernel_rfl) (by kernel_rfl) (fun _ _ _ h => h) (Or.inl ⟨by rfl, ?hy⟩) hH ?_
                  case hy => (intro w hSw; (try dsimp only at hSw); go_simp; try with_reducible rfl)
                  try simp only [Act.put, List.setIfInBounds_toArray, List.set_cons_zero, List.set_cons_succ]
                  refine wpAnyH_take (i := 19) (oi := { dst := some 59, op := Go.Op.load 28 (Go.Operand.tmp 58), type := 28, pos := "law.go:81", after := #[{ on := 18, ground := Go.Ground.data }, { on := 13, ground := Go.Ground.guard }], guard := some (13, true) }) (v := ?_) rfl (by kernel_rfl) (by kernel_rfl) (by kernel_rfl) (fun _ _ _ h => h) (Or.inl ⟨by rfl, ?hy⟩) hH ?_
                  case hy => (intro w hSw; (try dsimp only at hSw); go_simp; try with_reducible rfl)
                  try simp only [Act.put, List.setIfInBounds_toArray, List.set_cons_zero, List.set_cons_succ]
                  refine wpAnyH_take (i := 20) (oi := { dst := some 60, op := Go.Op.move (Go.Operand.tmp 9), type := 49, pos := "law.go:81", after := #[{ on := 13, ground := Go.Ground.guard }], guard := some (13, true) }) (v := ?_) rfl (by kernel_rfl) (by kernel_rfl) (by kernel_rfl) (fun _ _ _ h => h) (Or.inl ⟨by rfl, ?hy⟩) hH ?_
                  case hy => (intro w hSw; (try dsimp only at hSw); go_simp; try with_reducible rfl)
                  try simp only [Act.put, List.setIfInBounds_toArray, List.set_cons_zero, List.set_cons_succ]
                  refine wpAnyH_take (i := 21) (oi := { dst := some 61, op := Go.Op.move (Go.Operand.tmp 10), type := 3, pos := "law.go:81", after := #[{ on := 13, ground := Go.Ground.guard }], guard := some (13, true) }) (v := ?_) rfl (by kernel_rfl) (by kernel_rfl) (by kernel_rfl) (fun _ _ _ h => h) (Or.inl ⟨by rfl, ?hy⟩) hH ?_
                  case hy => (intro w hSw; (try dsimp only at hSw); go_simp; try with_reducible rfl)
                  try simp only [Act.put, List.setIfInBounds_toArray, List.set_cons_zero, List.set_cons_succ]
                  refine wpAnyH_take (i := 22) (oi := { dst := some 62, op := Go.Op.indexAddr 49 (Go.Operand.tmp 60) (Go.Operand.tmp 61), type := 0, pos := "law.go:81", after := #[{ on := 20, ground := Go.Ground.data }, { on := 21, ground := Go.Ground.data }, { on := 13, ground := Go.Ground.guard }], guard := some (13, true) }) (v := ?_) rfl (by kernel_rfl) (by kernel_rfl) (by kernel_rfl) (fun _ _ _ h => h) (Or.inl ⟨by rfl, ?hy⟩) hH ?_
                  case hy => (intro w hSw; (try dsimp only at hSw); go_simp; try with_reducible rfl)
                  try simp only [Act.put, List.setIfInBounds_toArray, List.set_cons_zero, List.set_cons_succ]
                  refine wpAnyH_take (i := 23) (oi := { dst := some 63, op := Go.Op.fieldAddr 42 (Go.Operand.tmp 62) 1, type := 0, pos := "law.go:81", after := #[{ on := 22, ground := Go.Ground.data }, { on := 13, ground := Go.Ground.guard }], guard := some (13, true) }) (v := ?_) rfl (by kernel_rfl) (by kernel_rfl) (by kernel_rfl) (fun _ _ _ h => h) (Or.inl ⟨by rfl, ?hy⟩) hH ?_
                  case hy => (intro w hSw; (try dsimp only at hSw); go_simp; try with_reducible rfl)
                  try simp only [Act.put, List.setIfInBounds_toArray, List.set_cons_zero, List.set_cons_succ]
                  refine wpAnyH_take (i := 24) (oi := { dst := some 64, op := Go.Op.load 28 (Go.Operand.tmp 63), type := 28, pos := "law.go:81", after := #[{ on := 23, ground := Go.Ground.data }, { on := 13, ground := Go.Ground.guard }], guard := some (13, true) }) (v := ?_) rfl (by kernel_rfl) (by kernel_rfl) (by kernel_rfl) (fun _ _ _ h => h) (Or.inl ⟨by rfl, ?hy⟩) hH ?_
                  case hy => (intro w hSw; (try dsimp only at hSw); go_simp; try with_reducible rfl)
                  try simp only [Act.put, List.setIfInBounds_toArray, List.set_cons_zero, List.set_cons_succ]
                  refine wpAnyH_ready (rs := [25]) (by kernel_rfl) (by simp) ?_
                  refine (AllReadyH.cons (o := { dst := some 65, op := Go.Op.call { callee := Go.Callee.value (Go.Operand.func 21), args := #[Go.Operand.tmp 54, Go.Operand.tmp 59, Go.Operand.tmp 64], argTypes := #[26, 28, 28] }, type := 4, pos := "law.go:81", after := #[{ on := 14, ground := Go.Ground.data }, { on := 19, ground := Go.Ground.data }, { on := 24, ground := Go.Ground.data }, { on := 13, ground := Go.Ground.chain }, { on := 13, ground := Go.Ground.guard }], guard := some (13, true) }) rfl (fun K hK => ?_) AllReadyH.nil)
                  go_simp
                  go_at_call 21
                  refine (under_any l vl y.root x.root _ (((HS.out.after hb).after hbr).after (by exact below_drew wq)) (by omega)).mono ?_
                  rw [HUn.out]
                  rintro e w5 ⟨rfl, hb5⟩
                  try go_simp
                  refine hK.out _ _ (below_ext (below_drew wq) hb5) (fun hH2 => ?_)
                  clear hK K hH
                  have hH := hH2
                  clear hH2
                  try simp only [Act.put, List.setIfInBounds_toArray, List.set_cons_zero, List.set_cons_succ]
                  refine wpAnyH_take (i := 26) (oi := { dst := some 66, op := Go.Op.pick (Go.Operand.tmp 53) (Go.Operand.tmp 65) (Go.Operand.const (Go.Value.bool false)), type := 4, pos := "law.go:81", after := #[{ on := 13, ground := Go.Ground.data }, { on := 25, ground := Go.Ground.data }, { on := 1, ground := Go.Ground.guard }], guard := some (1, false) }) (v := ?_) rfl (by kernel_rfl) (by kernel_rfl) (by kernel_rfl) (fun _ _ _ h => h) (Or.inl ⟨by rfl, ?hy⟩) hH ?_
                  case hy => (intro w hSw; (try dsimp only at hSw); go_simp; try with_reducible rfl)
                  try simp only [Act.put, List.setIfInBounds_toArray, List.set_cons_zero, List.set_cons_succ]
                  refine wpAnyH_take (i := 27) (oi := { dst := some 67, op := Go.Op.move (Go.Operand.tmp 66), type := 4, pos := "law.go:81", after := #[{ on := 26, ground := Go.Ground.data }, { on := 25, ground := Go.Ground.chain }, { on := 1, ground := Go.Ground.guard }], guard := some (1, false) }) (v := ?_) rfl (by kernel_rfl) (by kernel_rfl) (by kernel_rfl) (fun _ _ _ h => h) (Or.inl ⟨by rfl, ?hy⟩) hH ?_
                  case hy => (intro w hSw; (try dsimp only at hSw); go_simp; try with_reducible rfl)
                  try simp only [Act.put, List.setIfInBounds_toArray, List.set_cons_zero, List.set_cons_succ]
                  refine wpAnyH_take (i := 28) (oi := { dst := some 68, op := Go.Op.load 25 (Go.Operand.tmp 3), type := 25, pos := "law.go:81", after := #[{ on := 27, ground := Go.Ground.guard }], guard := some (27, true) }) (v := undef) rfl (by kernel_rfl) (by kernel_rfl) (by kernel_rfl) (fun _ _ _ h => h) (Or.inr ⟨by rfl, rfl⟩) hH ?_
                  try simp only [Act.put, List.setIfInBounds_toArray, List.set_cons_zero, List.set_cons_succ]
                  refine wpAnyH_take (i := 29) (oi := { dst := some 69, op := Go.Op.move (Go.Operand.tmp 1), type := 26, pos := "law.go:81", after := #[{ on := 27, ground := Go.Ground.guard }], guard := some (27, true) }) (v := undef) rfl (by kernel_rfl) (by kernel_rfl) (by kernel_rfl) (fun _ _ _ h => h) (Or.inr ⟨by rfl, rfl⟩) hH ?_
                  try simp only [Act.put, List.setIfInBounds_toArray, List.set_cons_zero, List.set_cons_succ]
                  refine wpAnyH_take (i := 30) (oi := { dst := some 70, op := Go.Op.move (Go.Operand.tmp 2), type := 40, pos := "law.go:81", after := #[{ on := 27, ground := Go.Ground.guard }], guard := some (27, true) }) (v := undef) rfl (by kernel_rfl) (by kernel_rfl) (by kernel_rfl) (fun _ _ _ h => h) (Or.inr ⟨by rfl, rfl⟩) hH ?_
                  try simp only [Act.put, List.setIfInBounds_toArray, List.set_cons_zero, List.set_cons_succ]
                  refine wpAnyH_take (i := 31) (oi := { dst := some 71, op := Go.Op.move (Go.Operand.tmp 9), type := 49, pos := "law.go:81", after := #[{ on := 27, ground := Go.Ground.guard }], guard := some (27, true) }) (v := undef) rfl (by kernel_rfl) (by kernel_rfl) (by kernel_rfl) (fun _ _ _ h => h) (Or.inr ⟨by rfl, rfl⟩) hH ?_
                  try simp only [Act.put, List.setIfInBounds_toArray, List.set_cons_zero, List.set_cons_succ]
                  refine wpAnyH_take (i := 32) (oi := { dst := some 72, op := Go.Op.move (Go.Operand.tmp 12), type := 3, pos := "law.go:81", after := #[{ on := 27, ground := Go.Ground.guard }], guard := some (27, true) }) (v := undef) rfl (by kernel_rfl) (by kernel_rfl) (by kernel_rfl) (fun _ _ _ h => h) (Or.inr ⟨by rfl, rfl⟩) hH ?_
                  try simp only [Act.put, List.setIfInBounds_toArray, List.set_cons_zero, List.set_cons_succ]
                  refine wpAnyH_take (i := 33) (oi := { dst := some 73, op := Go.Op.indexAddr 49 (Go.Operand.tmp 71) (Go.Operand.tmp 72), type := 0, pos := "law.go:81", after := #[{ on := 31, ground := Go.Ground.data }, { on := 32, ground := Go.Ground.data }, { on := 27, ground := Go.Ground.guard }], guard := some (27, true) }) (v := undef) rfl (by kernel_rfl) (by kernel_rfl) (by kernel_rfl) (fun _ _ _ h => h) (Or.inr ⟨by rfl, rfl⟩) hH ?_
                  try simp only [Act.put, List.setIfInBounds_toArray, List.set_cons_zero, List.set_cons_succ]
                  refine wpAnyH_take (i := 34) (oi := { dst := some 74, op := Go.Op.load 42 (Go.Operand.tmp 73), type := 42, pos := "law.go:81", after := #[{ on := 33, ground := Go.Ground.data }, { on := 27, ground := Go.Ground.guard }], guard := some (27, true) }) (v := undef) rfl (by kernel_rfl) (by kernel_rfl) (by kernel_rfl) (fun _ _ _ h => h) (Or.inr ⟨by rfl, rfl⟩) hH ?_
                  try simp only [Act.put, List.setIfInBounds_toArray, List.set_cons_zero, List.set_cons_succ]
                  refine wpAnyH_take (i := 35) (oi := { dst := some 75, op := Go.Op.move (Go.Operand.tmp 9), type := 49, pos := "law.go:81", after := #[{ on := 27, ground := Go.Ground.guard }], guard := some (27, true) }) (v := undef) rfl (by kernel_rfl) (by kernel_rfl) (by kernel_rfl) (fun _ _ _ h => h) (Or.inr ⟨by rfl, rfl⟩) hH ?_
                  try simp only [Act.put, List.setIfInBounds_toArray, List.set_cons_zero, List.set_cons_succ]
                  refine wpAnyH_take (i := 36) (oi := { dst := some 76, op := Go.Op.move (Go.Operand.tmp 10), type := 3, pos := "law.go:81", after := #[{ on := 27, ground := Go.Ground.guard }], guard := some (27, true) }) (v := undef) rfl (by kernel_rfl) (by kernel_rfl) (by kernel_rfl) (fun _ _ _ h => h) (Or.inr ⟨by rfl, rfl⟩) hH ?_
                  try simp only [Act.put, List.setIfInBounds_toArray, List.set_cons_zero, List.set_cons_succ]
                  refine wpAnyH_take (i := 37) (oi := { dst := some 77, op := Go.Op.indexAddr 49 (Go.Operand.tmp 75) (Go.Operand.tmp 76), type := 0, pos := "law.go:81", after := #[{ on := 35, ground := Go.Ground.data }, { on := 36, ground := Go.Ground.data }, { on := 27, ground := Go.Ground.guard }], guard := some (27, true) }) (v := undef) rfl (by kernel_rfl) (by kernel_rfl) (by kernel_rfl) (fun _ _ _ h => h) (Or.inr ⟨by rfl, rfl⟩) hH ?_
                  try simp only [Act.put, List.setIfInBounds_toArray, List.set_cons_zero, List.set_cons_succ]
                  refine wpAnyH_take (i := 38) (oi := { dst := some 78, op := Go.Op.load 42 (Go.Operand.tmp 77), type := 42, pos := "law.go:81", after := #[{ on := 37, ground := Go.Ground.data }, { on := 27, ground := Go.Ground.guard }], guard := some (27, true) }) (v := undef) rfl (by kernel_rfl) (by kernel_rfl) (by kernel_rfl) (fun _ _ _ h => h) (Or.inr ⟨by rfl, rfl⟩) hH ?_
                  try simp only [Act.put, List.setIfInBounds_toArray, List.set_cons_zero, List.set_cons_succ]
                  refine wpAnyH_ready (rs := [39]) (by kernel_rfl) (by simp) ?_
                  refine (AllReadyH.cons (o := { dst := some 79, op := Go.Op.call { callee := Go.Callee.value (Go.Operand.func 32), args := #[Go.Operand.tmp 68, Go.Operand.tmp 69, Go.Operand.tmp 70, Go.Operand.tmp 74, Go.Operand.tmp 78], argTypes := #[25, 26, 40, 42, 42] }, type := 4, pos := "law.go:81", after := #[{ on := 28, ground := Go.Ground.data }, { on := 29, ground := Go.Ground.data }, { on := 30, ground := Go.Ground.data }, { on := 34, ground := Go.Ground.data }, { on := 38, ground := Go.Ground.data }, { on := 27, ground := Go.Ground.chain }, { on := 27, ground := Go.Ground.guard }], guard := some (27, true) }) rfl (fun K hK => ?_) AllReadyH.nil)
                  go_simp
                  try go_simp
                  refine hK.out _ _ (hH) (fun hH2 => ?_)
                  clear hK K hH
                  have hH := hH2
                  clear hH2
                  try simp only [Act.put, List.setIfInBounds_toArray, List.set_cons_zero, List.set_cons_succ]
                  refine wpAnyH_take (i := 40) (oi := { dst := some 80, op := Go.Op.pick (Go.Operand.tmp 67) (Go.Operand.tmp 79) (Go.Operand.const (Go.Value.bool false)), type := 4, pos := "law.go:81", after := #[{ on := 27, ground := Go.Ground.data }, { on := 39, ground := Go.Ground.data }, { on := 1, ground := Go.Ground.guard }], guard := some (1, false) }) (v := ?_) rfl (by kernel_rfl) (by kernel_rfl) (by kernel_rfl) (fun _ _ _ h => h) (Or.inl ⟨by rfl, ?hy⟩) hH ?_
                  case hy => (intro w hSw; (try dsimp only at hSw); go_simp; try with_reducible rfl)
                  try simp only [Act.put, List.setIfInBounds_toArray, List.set_cons_zero, List.set_cons_succ]
                  refine wpAnyH_take (i := 41) (oi := { dst := some 81, op := Go.Op.pick (Go.Operand.tmp 41) (Go.Operand.const (Go.Value.bool true)) (Go.Operand.tmp 80), type := 4, pos := "law.go:81", after := #[{ on := 1, ground := Go.Ground.data }, { on := 40, ground := Go.Ground.data }], guard := none }) (v := ?_) rfl (by kernel_rfl) (by kernel_rfl) (by kernel_rfl) (fun _ _ _ h => h) (Or.inl ⟨by rfl, ?hy⟩) hH ?_
                  case hy => (intro w hSw; (try dsimp only at hSw); go_simp; try with_reducible rfl)
                  try simp only [Act.put, List.setIfInBounds_toArray, List.set_cons_zero, List.set_cons_succ]
                  refine wpAnyH_take (i := 42) (oi := { dst := some 11, op := Go.Op.assign (Go.Operand.tmp 81), type := 4, pos := "law.go:81", after := #[{ on := 41, ground := Go.Ground.data }, { on := 39, ground := Go.Ground.chain }, { on := 0, ground := Go.Ground.phase }, { on := 1, ground := Go.Ground.phase }, { on := 2, ground := Go.Ground.phase }, { on := 3, ground := Go.Ground.phase }, { on := 4, ground := Go.Ground.phase }, { on := 5, ground := Go.Ground.phase }, { on := 6, ground := Go.Ground.phase }, { on := 7, ground := Go.Ground.phase }, { on := 8, ground := Go.Ground.phase }, { on := 9, ground := Go.Ground.phase }, { on := 10, ground := Go.Ground.phase }, { on := 11, ground := Go.Ground.phase }, { on := 12, ground := Go.Ground.phase }, { on := 13, ground := Go.Ground.phase }, { on := 14, ground := Go.Ground.phase }, { on := 15, ground := Go.Ground.phase }, { on := 16, ground := Go.Ground.phase }, { on := 17, ground := Go.Ground.phase }, { on := 18, ground := Go.Ground.phase }, { on := 19, ground := Go.Ground.phase }, { on := 20, ground := Go.Ground.phase }, { on := 21, ground := Go.Ground.phase }, { on := 22, ground := Go.Ground.phase }, { on := 23, ground := Go.Ground.phase }, { on := 24, ground := Go.Ground.phase }, { on := 25, ground := Go.Ground.phase }, { on := 26, ground := Go.Ground.phase }, { on := 27, ground := Go.Ground.phase }, { on := 28, ground := Go.Ground.phase }, { on := 29, ground := Go.Ground.phase }, { on := 30, ground := Go.Ground.phase }, { on := 31, ground := Go.Ground.phase }, { on := 32, ground := Go.Ground.phase }, { on := 33, ground := Go.Ground.phase }, { on := 34, ground := Go.Ground.phase }, { on := 35, ground := Go.Ground.phase }, { on := 36, ground := Go.Ground.phase }, { on := 37, ground := Go.Ground.phase }, { on := 38, ground := Go.Ground.phase }, { on := 39, ground := Go.Ground.phase }, { on := 40, ground := Go.Ground.phase }, { on := 41, ground := Go.Ground.phase }], guard := none }) (v := ?_) rfl (by kernel_rfl) (by kernel_rfl) (by kernel_rfl) (fun _ _ _ h => h) (Or.inl ⟨by rfl, ?hy⟩) hH ?_
                  case hy => (intro w hSw; (try dsimp only at hSw); go_simp; try with_reducible rfl)
                  try simp only [Act.put, List.setIfInBounds_toArray, List.set_cons_zero, List.set_cons_succ]
                  refine wpAnyH_done (by kernel_rfl) ?_ _
                  all_goals
                    have hb6 := below_then hbr hbr.size (below_ext (below_drew wq) hb5)
                    clear hb5 r0 r1 r2 r3 r4 x0 x1 x2 y0 y1 y2
                    go_wp2
                    go_roundw
                    case rel => exact ⟨k + 1, by omega, by go_num, by rw [HE.out], hb6⟩
                    case measure => simp [intOf]; omega
                | true =>
                  have HUn := hide hun
                  have HE : Hid ((js.take (k + 1)).any (groundB c l ls x) = strongB c l ls ⟨y, x⟩) := by unfold Hid; rw [HT.out, HP.out]; unfold groundB; rw [hun, decide_eq_true h1]; simp
                  clear hun HT
                  obtain ⟨sb, hsb⟩ : ∃ sb, strongB c l ls ⟨y, x⟩ = sb := ⟨_, rfl⟩
                  rw [hsb] at HE
                  have HSB := hide hsb
                  clear hsb
                  obtain ⟨wq, hwq⟩ : ∃ wq, wq = wr := ⟨_, rfl⟩
                  subst hwq
                  go_wp2
                  refine wp_region_held_drew (S := fun w' => Below wq.heap.size wq w') (by kernel_rfl) (below_drew wq) (fun hH => ?_)
                  refine wpAnyH_take (i := 0) (oi := { dst := some 40, op := Go.Op.move (Go.Operand.tmp 11), type := 4, pos := "law.go:81", after := #[], guard := none }) (v := ?_) rfl (by kernel_rfl) (by kernel_rfl) (by kernel_rfl) (fun _ _ _ h => h) (Or.inl ⟨by rfl, ?hy⟩) hH ?_
                  case hy => (intro w hSw; (try dsimp only at hSw); go_simp; try with_reducible rfl)
                  try simp only [Act.put, List.setIfInBounds_toArray, List.set_cons_zero, List.set_cons_succ]
                  refine wpAnyH_take (i := 1) (oi := { dst := some 41, op := Go.Op.move (Go.Operand.tmp 40), type := 4, pos := "law.go:81", after := #[{ on := 0, ground := Go.Ground.data }], guard := none }) (v := ?_) rfl (by kernel_rfl) (by kernel_rfl) (by kernel_rfl) (fun _ _ _ h => h) (Or.inl ⟨by rfl, ?hy⟩) hH ?_
                  case hy => (intro w hSw; (try dsimp only at hSw); go_simp; try with_reducible rfl)
                  try simp only [Act.put, List.setIfInBounds_toArray, List.set_cons_zero, List.set_cons_succ]
                  refine wpAnyH_take (i := 2) (oi := { dst := some 42, op := Go.Op.move (Go.Operand.tmp 9), type := 49, pos := "law.go:81", after := #[{ on := 1, ground := Go.Ground.guard }], guard := some (1, false) }) (v := ?_) rfl (by kernel_rfl) (by kernel_rfl) (by kernel_rfl) (fun _ _ _ h => h) (Or.inl ⟨by rfl, ?hy⟩) hH ?_
                  case hy => (intro w hSw; (try dsimp only at hSw); go_simp; try with_reducible rfl)
                  try simp only [Act.put, List.setIfInBounds_toArray, List.set_cons_zero, List.set_cons_succ]
                  refine wpAnyH_take (i := 3) (oi := { dst := some 43, op := Go.Op.move (Go.Operand.tmp 12), type := 3, pos := "law.go:81", after := #[{ on := 1, ground := Go.Ground.guard }], guard := some (1, false) }) (v := ?_) rfl (by kernel_rfl) (by kernel_rfl) (by kernel_rfl) (fun _ _ _ h => h) (Or.inl ⟨by rfl, ?hy⟩) hH ?_
                  case hy => (intro w hSw; (try dsimp only at hSw); go_simp; try with_reducible rfl)
                  try simp only [Act.put, List.setIfInBounds_toArray, List.set_cons_zero, List.set_cons_succ]
                  refine wpAnyH_take (i := 4) (oi := { dst := some 44, op := Go.Op.indexAddr 49 (Go.Operand.tmp 42) (Go.Operand.tmp 43), type := 0, pos := "law.go:81", after := #[{ on := 2, ground := Go.Ground.data }, { on := 3, ground := Go.Ground.data }, { on := 1, ground := Go.Ground.guard }], guard := some (1, false) }) (v := ?_) rfl (by kernel_rfl) (by kernel_rfl) (by kernel_rfl) (fun _ _ _ h => h) (Or.inl ⟨by rfl, ?hy⟩) hH ?_
                  case hy => (intro w hSw; (try dsimp only at hSw); go_simp; try with_reducible rfl)
                  try simp only [Act.put, List.setIfInBounds_toArray, List.set_cons_zero, List.set_cons_succ]
                  refine wpAnyH_take (i := 5) (oi := { dst := some 45, op := Go.Op.fieldAddr 42 (Go.Operand.tmp 44) 0, type := 0, pos := "law.go:81", after := #[{ on := 4, ground := Go.Ground.data }, { on := 1, ground := Go.Ground.guard }], guard := some (1, false) }) (v := ?_) rfl (by kernel_rfl) (by kernel_rfl) (by kernel_rfl) (fun _ _ _ h => h) (Or.inl ⟨by rfl, ?hy⟩) hH ?_
                  case hy => (intro w hSw; (try dsimp only at hSw); go_simp; try with_reducible rfl)
                  try simp only [Act.put, List.setIfInBounds_toArray, List.set_cons_zero, List.set_cons_succ]
                  refine wpAnyH_take (i := 6) (oi := { dst := some 46, op := Go.Op.load 3 (Go.Operand.tmp 45), type := 3, pos := "law.go:81", after := #[{ on := 5, ground := Go.Ground.data }, { on := 1, ground := Go.Ground.guard }], guard := some (1, false) }) (v := ?_) rfl (by kernel_rfl) (by kernel_rfl) (by kernel_rfl) (fun _ _ _ h => h) (Or.inl ⟨by rfl, ?hy⟩) hH ?_
                  case hy => (intro w hSw; (try dsimp only at hSw); go_simp; try with_reducible rfl)
                  try simp only [Act.put, List.setIfInBounds_toArray, List.set_cons_zero, List.set_cons_succ]
                  refine wpAnyH_take (i := 7) (oi := { dst := some 47, op := Go.Op.move (Go.Operand.tmp 9), type := 49, pos := "law.go:81", after := #[{ on := 1, ground := Go.Ground.guard }], guard := some (1, false) }) (v := ?_) rfl (by kernel_rfl) (by kernel_rfl) (by kernel_rfl) (fun _ _ _ h => h) (Or.inl ⟨by rfl, ?hy⟩) hH ?_
                  case hy => (intro w hSw; (try dsimp only at hSw); go_simp; try with_reducible rfl)
                  try simp only [Act.put, List.setIfInBounds_toArray, List.set_cons_zero, List.set_cons_succ]
                  refine wpAnyH_take (i := 8) (oi := { dst := some 48, op := Go.Op.move (Go.Operand.tmp 10), type := 3, pos := "law.go:81", after := #[{ on := 1, ground := Go.Ground.guard }], guard := some (1, false) }) (v := ?_) rfl (by kernel_rfl) (by kernel_rfl) (by kernel_rfl) (fun _ _ _ h => h) (Or.inl ⟨by rfl, ?hy⟩) hH ?_
                  case hy => (intro w hSw; (try dsimp only at hSw); go_simp; try with_reducible rfl)
                  try simp only [Act.put, List.setIfInBounds_toArray, List.set_cons_zero, List.set_cons_succ]
                  refine wpAnyH_take (i := 9) (oi := { dst := some 49, op := Go.Op.indexAddr 49 (Go.Operand.tmp 47) (Go.Operand.tmp 48), type := 0, pos := "law.go:81", after := #[{ on := 7, ground := Go.Ground.data }, { on := 8, ground := Go.Ground.data }, { on := 1, ground := Go.Ground.guard }], guard := some (1, false) }) (v := ?_) rfl (by kernel_rfl) (by kernel_rfl) (by kernel_rfl) (fun _ _ _ h => h) (Or.inl ⟨by rfl, ?hy⟩) hH ?_
                  case hy => (intro w hSw; (try dsimp only at hSw); go_simp; try with_reducible rfl)
                  try simp only [Act.put, List.setIfInBounds_toArray, List.set_cons_zero, List.set_cons_succ]
                  refine wpAnyH_take (i := 10) (oi := { dst := some 50, op := Go.Op.fieldAddr 42 (Go.Operand.tmp 49) 0, type := 0, pos := "law.go:81", after := #[{ on := 9, ground := Go.Ground.data }, { on := 1, ground := Go.Ground.guard }], guard := some (1, false) }) (v := ?_) rfl (by kernel_rfl) (by kernel_rfl) (by kernel_rfl) (fun _ _ _ h => h) (Or.inl ⟨by rfl, ?hy⟩) hH ?_
                  case hy => (intro w hSw; (try dsimp only at hSw); go_simp; try with_reducible rfl)
                  try simp only [Act.put, List.setIfInBounds_toArray, List.set_cons_zero, List.set_cons_succ]
                  refine wpAnyH_take (i := 11) (oi := { dst := some 51, op := Go.Op.load 3 (Go.Operand.tmp 50), type := 3, pos := "law.go:81", after := #[{ on := 10, ground := Go.Ground.data }, { on := 1, ground := Go.Ground.guard }], guard := some (1, false) }) (v := ?_) rfl (by kernel_rfl) (by kernel_rfl) (by kernel_rfl) (fun _ _ _ h => h) (Or.inl ⟨by rfl, ?hy⟩) hH ?_
                  case hy => (intro w hSw; (try dsimp only at hSw); go_simp; try with_reducible rfl)
                  try simp only [Act.put, List.setIfInBounds_toArray, List.set_cons_zero, List.set_cons_succ]
                  refine wpAnyH_take (i := 12) (oi := { dst := some 52, op := Go.Op.binOp Go.BinOp.lss 3 (Go.Operand.tmp 46) (Go.Operand.tmp 51) 3, type := 4, pos := "law.go:81", after := #[{ on := 6, ground := Go.Ground.data }, { on := 11, ground := Go.Ground.data }, { on := 1, ground := Go.Ground.guard }], guard := some (1, false) }) (v := ?_) rfl (by kernel_rfl) (by kernel_rfl) (by kernel_rfl) (fun _ _ _ h => h) (Or.inl ⟨by rfl, ?hy⟩) hH ?_
                  case hy => (intro w hSw; (try dsimp only at hSw); go_simp; try with_reducible rfl)
                  try simp only [Act.put, List.setIfInBounds_toArray, List.set_cons_zero, List.set_cons_succ]
                  refine wpAnyH_take (i := 13) (oi := { dst := some 53, op := Go.Op.move (Go.Operand.tmp 52), type := 4, pos := "law.go:81", after := #[{ on := 12, ground := Go.Ground.data }, { on := 1, ground := Go.Ground.chain }, { on := 1, ground := Go.Ground.guard }], guard := some (1, false) }) (v := ?_) rfl (by kernel_rfl) (by kernel_rfl) (by kernel_rfl) (fun _ _ _ h => h) (Or.inl ⟨by rfl, ?hy⟩) hH ?_
                  case hy => (intro w hSw; (try dsimp only at hSw); go_simp; try with_reducible rfl)
                  try simp only [Act.put, List.setIfInBounds_toArray, List.set_cons_zero, List.set_cons_succ]
                  refine wpAnyH_take (i := 14) (oi := { dst := some 54, op := Go.Op.move (Go.Operand.tmp 1), type := 26, pos := "law.go:81", after := #[{ on := 13, ground := Go.Ground.guard }], guard := some (13, true) }) (v := ?_) rfl (by kernel_rfl) (by kernel_rfl) (by kernel_rfl) (fun _ _ _ h => h) (Or.inl ⟨by rfl, ?hy⟩) hH ?_
                  case hy => (intro w hSw; (try dsimp only at hSw); go_simp; try with_reducible rfl)
                  try simp only [Act.put, List.setIfInBounds_toArray, List.set_cons_zero, List.set_cons_succ]
                  refine wpAnyH_take (i := 15) (oi := { dst := some 55, op := Go.Op.move (Go.Operand.tmp 9), type := 49, pos := "law.go:81", after := #[{ on := 13, ground := Go.Ground.guard }], guard := some (13, true) }) (v := ?_) rfl (by kernel_rfl) (by kernel_rfl) (by kernel_rfl) (fun _ _ _ h => h) (Or.inl ⟨by rfl, ?hy⟩) hH ?_
                  case hy => (intro w hSw; (try dsimp only at hSw); go_simp; try with_reducible rfl)
                  try simp only [Act.put, List.setIfInBounds_toArray, List.set_cons_zero, List.set_cons_succ]
                  refine wpAnyH_take (i := 16) (oi := { dst := some 56, op := Go.Op.move (Go.Operand.tmp 12), type := 3, pos := "law.go:81", after := #[{ on := 13, ground := Go.Ground.guard }], guard := some (13, true) }) (v := ?_) rfl (by kernel_rfl) (by kernel_rfl) (by kernel_rfl) (fun _ _ _ h => h) (Or.inl ⟨by rfl, ?hy⟩) hH ?_
                  case hy => (intro w hSw; (try dsimp only at hSw); go_simp; try with_reducible rfl)
                  try simp only [Act.put, List.setIfInBounds_toArray, List.set_cons_zero, List.set_cons_succ]
                  refine wpAnyH_take (i := 17) (oi := { dst := some 57, op := Go.Op.indexAddr 49 (Go.Operand.tmp 55) (Go.Operand.tmp 56), type := 0, pos := "law.go:81", after := #[{ on := 15, ground := Go.Ground.data }, { on := 16, ground := Go.Ground.data }, { on := 13, ground := Go.Ground.guard }], guard := some (13, true) }) (v := ?_) rfl (by kernel_rfl) (by kernel_rfl) (by kernel_rfl) (fun _ _ _ h => h) (Or.inl ⟨by rfl, ?hy⟩) hH ?_
                  case hy => (intro w hSw; (try dsimp only at hSw); go_simp; try with_reducible rfl)
                  try simp only [Act.put, List.setIfInBounds_toArray, List.set_cons_zero, List.set_cons_succ]
                  refine wpAnyH_take (i := 18) (oi := { dst := some 58, op := Go.Op.fieldAddr 42 (Go.Operand.tmp 57) 1, type := 0, pos := "law.go:81", after := #[{ on := 17, ground := Go.Ground.data }, { on := 13, ground := Go.Ground.guard }], guard := some (13, true) }) (v := ?_) rfl (by kernel_rfl) (by kernel_rfl) (by kernel_rfl) (fun _ _ _ h => h) (Or.inl ⟨by rfl, ?hy⟩) hH ?_
                  case hy => (intro w hSw; (try dsimp only at hSw); go_simp; try with_reducible rfl)
                  try simp only [Act.put, List.setIfInBounds_toArray, List.set_cons_zero, List.set_cons_succ]
                  refine wpAnyH_take (i := 19) (oi := { dst := some 59, op := Go.Op.load 28 (Go.Operand.tmp 58), type := 28, pos := "law.go:81", after := #[{ on := 18, ground := Go.Ground.data }, { on := 13, ground := Go.Ground.guard }], guard := some (13, true) }) (v := ?_) rfl (by kernel_rfl) (by kernel_rfl) (by kernel_rfl) (fun _ _ _ h => h) (Or.inl ⟨by rfl, ?hy⟩) hH ?_
                  case hy => (intro w hSw; (try dsimp only at hSw); go_simp; try with_reducible rfl)
                  try simp only [Act.put, List.setIfInBounds_toArray, List.set_cons_zero, List.set_cons_succ]
                  refine wpAnyH_take (i := 20) (oi := { dst := some 60, op := Go.Op.move (Go.Operand.tmp 9), type := 49, pos := "law.go:81", after := #[{ on := 13, ground := Go.Ground.guard }], guard := some (13, true) }) (v := ?_) rfl (by kernel_rfl) (by kernel_rfl) (by kernel_rfl) (fun _ _ _ h => h) (Or.inl ⟨by rfl, ?hy⟩) hH ?_
                  case hy => (intro w hSw; (try dsimp only at hSw); go_simp; try with_reducible rfl)
                  try simp only [Act.put, List.setIfInBounds_toArray, List.set_cons_zero, List.set_cons_succ]
                  refine wpAnyH_take (i := 21) (oi := { dst := some 61, op := Go.Op.move (Go.Operand.tmp 10), type := 3, pos := "law.go:81", after := #[{ on := 13, ground := Go.Ground.guard }], guard := some (13, true) }) (v := ?_) rfl (by kernel_rfl) (by kernel_rfl) (by kernel_rfl) (fun _ _ _ h => h) (Or.inl ⟨by rfl, ?hy⟩) hH ?_
                  case hy => (intro w hSw; (try dsimp only at hSw); go_simp; try with_reducible rfl)
                  try simp only [Act.put, List.setIfInBounds_toArray, List.set_cons_zero, List.set_cons_succ]
                  refine wpAnyH_take (i := 22) (oi := { dst := some 62, op := Go.Op.indexAddr 49 (Go.Operand.tmp 60) (Go.Operand.tmp 61), type := 0, pos := "law.go:81", after := #[{ on := 20, ground := Go.Ground.data }, { on := 21, ground := Go.Ground.data }, { on := 13, ground := Go.Ground.guard }], guard := some (13, true) }) (v := ?_) rfl (by kernel_rfl) (by kernel_rfl) (by kernel_rfl) (fun _ _ _ h => h) (Or.inl ⟨by rfl, ?hy⟩) hH ?_
                  case hy => (intro w hSw; (try dsimp only at hSw); go_simp; try with_reducible rfl)
                  try simp only [Act.put, List.setIfInBounds_toArray, List.set_cons_zero, List.set_cons_succ]
                  refine wpAnyH_take (i := 23) (oi := { dst := some 63, op := Go.Op.fieldAddr 42 (Go.Operand.tmp 62) 1, type := 0, pos := "law.go:81", after := #[{ on := 22, ground := Go.Ground.data }, { on := 13, ground := Go.Ground.guard }], guard := some (13, true) }) (v := ?_) rfl (by kernel_rfl) (by kernel_rfl) (by kernel_rfl) (fun _ _ _ h => h) (Or.inl ⟨by rfl, ?hy⟩) hH ?_
                  case hy => (intro w hSw; (try dsimp only at hSw); go_simp; try with_reducible rfl)
                  try simp only [Act.put, List.setIfInBounds_toArray, List.set_cons_zero, List.set_cons_succ]
                  refine wpAnyH_take (i := 24) (oi := { dst := some 64, op := Go.Op.load 28 (Go.Operand.tmp 63), type := 28, pos := "law.go:81", after := #[{ on := 23, ground := Go.Ground.data }, { on := 13, ground := Go.Ground.guard }], guard := some (13, true) }) (v := ?_) rfl (by kernel_rfl) (by kernel_rfl) (by kernel_rfl) (fun _ _ _ h => h) (Or.inl ⟨by rfl, ?hy⟩) hH ?_
                  case hy => (intro w hSw; (try dsimp only at hSw); go_simp; try with_reducible rfl)
                  try simp only [Act.put, List.setIfInBounds_toArray, List.set_cons_zero, List.set_cons_succ]
                  refine wpAnyH_ready (rs := [25]) (by kernel_rfl) (by simp) ?_
                  refine (AllReadyH.cons (o := { dst := some 65, op := Go.Op.call { callee := Go.Callee.value (Go.Operand.func 21), args := #[Go.Operand.tmp 54, Go.Operand.tmp 59, Go.Operand.tmp 64], argTypes := #[26, 28, 28] }, type := 4, pos := "law.go:81", after := #[{ on := 14, ground := Go.Ground.data }, { on := 19, ground := Go.Ground.data }, { on := 24, ground := Go.Ground.data }, { on := 13, ground := Go.Ground.chain }, { on := 13, ground := Go.Ground.guard }], guard := some (13, true) }) rfl (fun K hK => ?_) AllReadyH.nil)
                  go_simp
                  go_at_call 21
                  refine (under_any l vl y.root x.root _ (((HS.out.after hb).after hbr).after (by exact below_drew wq)) (by omega)).mono ?_
                  rw [HUn.out]
                  rintro e w5 ⟨rfl, hb5⟩
                  try go_simp
                  refine hK.out _ _ (below_ext (below_drew wq) hb5) (fun hH2 => ?_)
                  clear hK K hH
                  have hH := hH2
                  clear hH2
                  try simp only [Act.put, List.setIfInBounds_toArray, List.set_cons_zero, List.set_cons_succ]
                  refine wpAnyH_take (i := 26) (oi := { dst := some 66, op := Go.Op.pick (Go.Operand.tmp 53) (Go.Operand.tmp 65) (Go.Operand.const (Go.Value.bool false)), type := 4, pos := "law.go:81", after := #[{ on := 13, ground := Go.Ground.data }, { on := 25, ground := Go.Ground.data }, { on := 1, ground := Go.Ground.guard }], guard := some (1, false) }) (v := ?_) rfl (by kernel_rfl) (by kernel_rfl) (by kernel_rfl) (fun _ _ _ h => h) (Or.inl ⟨by rfl, ?hy⟩) hH ?_
                  case hy => (intro w hSw; (try dsimp only at hSw); go_simp; try with_reducible rfl)
                  try simp only [Act.put, List.setIfInBounds_toArray, List.set_cons_zero, List.set_cons_succ]
                  refine wpAnyH_take (i := 27) (oi := { dst := some 67, op := Go.Op.move (Go.Operand.tmp 66), type := 4, pos := "law.go:81", after := #[{ on := 26, ground := Go.Ground.data }, { on := 25, ground := Go.Ground.chain }, { on := 1, ground := Go.Ground.guard }], guard := some (1, false) }) (v := ?_) rfl (by kernel_rfl) (by kernel_rfl) (by kernel_rfl) (fun _ _ _ h => h) (Or.inl ⟨by rfl, ?hy⟩) hH ?_
                  case hy => (intro w hSw; (try dsimp only at hSw); go_simp; try with_reducible rfl)
                  try simp only [Act.put, List.setIfInBounds_toArray, List.set_cons_zero, List.set_cons_succ]
                  refine wpAnyH_take (i := 28) (oi := { dst := some 68, op := Go.Op.load 25 (Go.Operand.tmp 3), type := 25, pos := "law.go:81", after := #[{ on := 27, ground := Go.Ground.guard }], guard := some (27, true) }) (v := ?_) rfl (by kernel_rfl) (by kernel_rfl) (by kernel_rfl) (fun _ _ _ h => h) (Or.inl ⟨by rfl, ?hy⟩) hH ?_
                  case hy => (intro w hSw; (try dsimp only at hSw); go_simp; try with_reducible rfl)
                  try simp only [Act.put, List.setIfInBounds_toArray, List.set_cons_zero, List.set_cons_succ]
                  refine wpAnyH_take (i := 29) (oi := { dst := some 69, op := Go.Op.move (Go.Operand.tmp 1), type := 26, pos := "law.go:81", after := #[{ on := 27, ground := Go.Ground.guard }], guard := some (27, true) }) (v := ?_) rfl (by kernel_rfl) (by kernel_rfl) (by kernel_rfl) (fun _ _ _ h => h) (Or.inl ⟨by rfl, ?hy⟩) hH ?_
                  case hy => (intro w hSw; (try dsimp only at hSw); go_simp; try with_reducible rfl)
                  try simp only [Act.put, List.setIfInBounds_toArray, List.set_cons_zero, List.set_cons_succ]
                  refine wpAnyH_take (i := 30) (oi := { dst := some 70, op := Go.Op.move (Go.Operand.tmp 2), type := 40, pos := "law.go:81", after := #[{ on := 27, ground := Go.Ground.guard }], guard := some (27, true) }) (v := ?_) rfl (by kernel_rfl) (by kernel_rfl) (by kernel_rfl) (fun _ _ _ h => h) (Or.inl ⟨by rfl, ?hy⟩) hH ?_
                  case hy => (intro w hSw; (try dsimp only at hSw); go_simp; try with_reducible rfl)
                  try simp only [Act.put, List.setIfInBounds_toArray, List.set_cons_zero, List.set_cons_succ]
                  refine wpAnyH_take (i := 31) (oi := { dst := some 71, op := Go.Op.move (Go.Operand.tmp 9), type := 49, pos := "law.go:81", after := #[{ on := 27, ground := Go.Ground.guard }], guard := some (27, true) }) (v := ?_) rfl (by kernel_rfl) (by kernel_rfl) (by kernel_rfl) (fun _ _ _ h => h) (Or.inl ⟨by rfl, ?hy⟩) hH ?_
                  case hy => (intro w hSw; (try dsimp only at hSw); go_simp; try with_reducible rfl)
                  try simp only [Act.put, List.setIfInBounds_toArray, List.set_cons_zero, List.set_cons_succ]
                  refine wpAnyH_take (i := 32) (oi := { dst := some 72, op := Go.Op.move (Go.Operand.tmp 12), type := 3, pos := "law.go:81", after := #[{ on := 27, ground := Go.Ground.guard }], guard := some (27, true) }) (v := ?_) rfl (by kernel_rfl) (by kernel_rfl) (by kernel_rfl) (fun _ _ _ h => h) (Or.inl ⟨by rfl, ?hy⟩) hH ?_
                  case hy => (intro w hSw; (try dsimp only at hSw); go_simp; try with_reducible rfl)
                  try simp only [Act.put, List.setIfInBounds_toArray, List.set_cons_zero, List.set_cons_succ]
                  refine wpAnyH_take (i := 33) (oi := { dst := some 73, op := Go.Op.indexAddr 49 (Go.Operand.tmp 71) (Go.Operand.tmp 72), type := 0, pos := "law.go:81", after := #[{ on := 31, ground := Go.Ground.data }, { on := 32, ground := Go.Ground.data }, { on := 27, ground := Go.Ground.guard }], guard := some (27, true) }) (v := ?_) rfl (by kernel_rfl) (by kernel_rfl) (by kernel_rfl) (fun _ _ _ h => h) (Or.inl ⟨by rfl, ?hy⟩) hH ?_
                  case hy => (intro w hSw; (try dsimp only at hSw); go_simp; try with_reducible rfl)
                  try simp only [Act.put, List.setIfInBounds_toArray, List.set_cons_zero, List.set_cons_succ]
                  refine wpAnyH_take (i := 34) (oi := { dst := some 74, op := Go.Op.load 42 (Go.Operand.tmp 73), type := 42, pos := "law.go:81", after := #[{ on := 33, ground := Go.Ground.data }, { on := 27, ground := Go.Ground.guard }], guard := some (27, true) }) (v := ?_) rfl (by kernel_rfl) (by kernel_rfl) (by kernel_rfl) (fun _ _ _ h => h) (Or.inl ⟨by rfl, ?hy⟩) hH ?_
                  case hy => (intro w hSw; (try dsimp only at hSw); go_simp; try with_reducible rfl)
                  try simp only [Act.put, List.setIfInBounds_toArray, List.set_cons_zero, List.set_cons_succ]
                  refine wpAnyH_take (i := 35) (oi := { dst := some 75, op := Go.Op.move (Go.Operand.tmp 9), type := 49, pos := "law.go:81", after := #[{ on := 27, ground := Go.Ground.guard }], guard := some (27, true) }) (v := ?_) rfl (by kernel_rfl) (by kernel_rfl) (by kernel_rfl) (fun _ _ _ h => h) (Or.inl ⟨by rfl, ?hy⟩) hH ?_
                  case hy => (intro w hSw; (try dsimp only at hSw); go_simp; try with_reducible rfl)
                  try simp only [Act.put, List.setIfInBounds_toArray, List.set_cons_zero, List.set_cons_succ]
                  refine wpAnyH_take (i := 36) (oi := { dst := some 76, op := Go.Op.move (Go.Operand.tmp 10), type := 3, pos := "law.go:81", after := #[{ on := 27, ground := Go.Ground.guard }], guard := some (27, true) }) (v := ?_) rfl (by kernel_rfl) (by kernel_rfl) (by kernel_rfl) (fun _ _ _ h => h) (Or.inl ⟨by rfl, ?hy⟩) hH ?_
                  case hy => (intro w hSw; (try dsimp only at hSw); go_simp; try with_reducible rfl)
                  try simp only [Act.put, List.setIfInBounds_toArray, List.set_cons_zero, List.set_cons_succ]
                  refine wpAnyH_take (i := 37) (oi := { dst := some 77, op := Go.Op.indexAddr 49 (Go.Operand.tmp 75) (Go.Operand.tmp 76), type := 0, pos := "law.go:81", after := #[{ on := 35, ground := Go.Ground.data }, { on := 36, ground := Go.Ground.data }, { on := 27, ground := Go.Ground.guard }], guard := some (27, true) }) (v := ?_) rfl (by kernel_rfl) (by kernel_rfl) (by kernel_rfl) (fun _ _ _ h => h) (Or.inl ⟨by rfl, ?hy⟩) hH ?_
                  case hy => (intro w hSw; (try dsimp only at hSw); go_simp; try with_reducible rfl)
                  try simp only [Act.put, List.setIfInBounds_toArray, List.set_cons_zero, List.set_cons_succ]
                  refine wpAnyH_take (i := 38) (oi := { dst := some 78, op := Go.Op.load 42 (Go.Operand.tmp 77), type := 42, pos := "law.go:81", after := #[{ on := 37, ground := Go.Ground.data }, { on := 27, ground := Go.Ground.guard }], guard := some (27, true) }) (v := ?_) rfl (by kernel_rfl) (by kernel_rfl) (by kernel_rfl) (fun _ _ _ h => h) (Or.inl ⟨by rfl, ?hy⟩) hH ?_
                  case hy => (intro w hSw; (try dsimp only at hSw); go_simp; try with_reducible rfl)
                  try simp only [Act.put, List.setIfInBounds_toArray, List.set_cons_zero, List.set_cons_succ]
                  refine wpAnyH_ready (rs := [39]) (by kernel_rfl) (by simp) ?_
                  refine (AllReadyH.cons (o := { dst := some 79, op := Go.Op.call { callee := Go.Callee.value (Go.Operand.func 32), args := #[Go.Operand.tmp 68, Go.Operand.tmp 69, Go.Operand.tmp 70, Go.Operand.tmp 74, Go.Operand.tmp 78], argTypes := #[25, 26, 40, 42, 42] }, type := 4, pos := "law.go:81", after := #[{ on := 28, ground := Go.Ground.data }, { on := 29, ground := Go.Ground.data }, { on := 30, ground := Go.Ground.data }, { on := 34, ground := Go.Ground.data }, { on := 38, ground := Go.Ground.data }, { on := 27, ground := Go.Ground.chain }, { on := 27, ground := Go.Ground.guard }], guard := some (27, true) }) rfl (fun K hK => ?_) AllReadyH.nil)
                  go_simp
                  go_at_call 32
                  refine (strongOf_any c _ l vl ls _ y x _ (((HC.out.after hb).after hbr).after hH) (((HS.out.after hb).after hbr).after hH) (by omega) (((HL.out.after hb).after hbr).after hH) (by omega)).mono ?_
                  rw [HSB.out]
                  rintro e w6 ⟨rfl, hb6⟩
                  try go_simp
                  refine hK.out _ _ (below_ext hH hb6) (fun hH2 => ?_)
                  clear hK K hH
                  have hH := hH2
                  clear hH2
                  try simp only [Act.put, List.setIfInBounds_toArray, List.set_cons_zero, List.set_cons_succ]
                  refine wpAnyH_take (i := 40) (oi := { dst := some 80, op := Go.Op.pick (Go.Operand.tmp 67) (Go.Operand.tmp 79) (Go.Operand.const (Go.Value.bool false)), type := 4, pos := "law.go:81", after := #[{ on := 27, ground := Go.Ground.data }, { on := 39, ground := Go.Ground.data }, { on := 1, ground := Go.Ground.guard }], guard := some (1, false) }) (v := ?_) rfl (by kernel_rfl) (by kernel_rfl) (by kernel_rfl) (fun _ _ _ h => h) (Or.inl ⟨by rfl, ?hy⟩) hH ?_
                  case hy => (intro w hSw; (try dsimp only at hSw); go_simp; try with_reducible rfl)
                  try simp only [Act.put, List.setIfInBounds_toArray, List.set_cons_zero, List.set_cons_succ]
                  refine wpAnyH_take (i := 41) (oi := { dst := some 81, op := Go.Op.pick (Go.Operand.tmp 41) (Go.Operand.const (Go.Value.bool true)) (Go.Operand.tmp 80), type := 4, pos := "law.go:81", after := #[{ on := 1, ground := Go.Ground.data }, { on := 40, ground := Go.Ground.data }], guard := none }) (v := ?_) rfl (by kernel_rfl) (by kernel_rfl) (by kernel_rfl) (fun _ _ _ h => h) (Or.inl ⟨by rfl, ?hy⟩) hH ?_
                  case hy => (intro w hSw; (try dsimp only at hSw); go_simp; try with_reducible rfl)
                  try simp only [Act.put, List.setIfInBounds_toArray, List.set_cons_zero, List.set_cons_succ]
                  refine wpAnyH_take (i := 42) (oi := { dst := some 11, op := Go.Op.assign (Go.Operand.tmp 81), type := 4, pos := "law.go:81", after := #[{ on := 41, ground := Go.Ground.data }, { on := 39, ground := Go.Ground.chain }, { on := 0, ground := Go.Ground.phase }, { on := 1, ground := Go.Ground.phase }, { on := 2, ground := Go.Ground.phase }, { on := 3, ground := Go.Ground.phase }, { on := 4, ground := Go.Ground.phase }, { on := 5, ground := Go.Ground.phase }, { on := 6, ground := Go.Ground.phase }, { on := 7, ground := Go.Ground.phase }, { on := 8, ground := Go.Ground.phase }, { on := 9, ground := Go.Ground.phase }, { on := 10, ground := Go.Ground.phase }, { on := 11, ground := Go.Ground.phase }, { on := 12, ground := Go.Ground.phase }, { on := 13, ground := Go.Ground.phase }, { on := 14, ground := Go.Ground.phase }, { on := 15, ground := Go.Ground.phase }, { on := 16, ground := Go.Ground.phase }, { on := 17, ground := Go.Ground.phase }, { on := 18, ground := Go.Ground.phase }, { on := 19, ground := Go.Ground.phase }, { on := 20, ground := Go.Ground.phase }, { on := 21, ground := Go.Ground.phase }, { on := 22, ground := Go.Ground.phase }, { on := 23, ground := Go.Ground.phase }, { on := 24, ground := Go.Ground.phase }, { on := 25, ground := Go.Ground.phase }, { on := 26, ground := Go.Ground.phase }, { on := 27, ground := Go.Ground.phase }, { on := 28, ground := Go.Ground.phase }, { on := 29, ground := Go.Ground.phase }, { on := 30, ground := Go.Ground.phase }, { on := 31, ground := Go.Ground.phase }, { on := 32, ground := Go.Ground.phase }, { on := 33, ground := Go.Ground.phase }, { on := 34, ground := Go.Ground.phase }, { on := 35, ground := Go.Ground.phase }, { on := 36, ground := Go.Ground.phase }, { on := 37, ground := Go.Ground.phase }, { on := 38, ground := Go.Ground.phase }, { on := 39, ground := Go.Ground.phase }, { on := 40, ground := Go.Ground.phase }, { on := 41, ground := Go.Ground.phase }], guard := none }) (v := ?_) rfl (by kernel_rfl) (by kernel_rfl) (by kernel_rfl) (fun _ _ _ h => h) (Or.inl ⟨by rfl, ?hy⟩) hH ?_
                  case hy => (intro w hSw; (try dsimp only at hSw); go_simp; try with_reducible rfl)
                  try simp only [Act.put, List.setIfInBounds_toArray, List.set_cons_zero, List.set_cons_succ]
                  refine wpAnyH_done (by kernel_rfl) ?_ _
                  all_goals
                    have hb7 := below_then hbr hbr.size (below_ext (below_ext (below_drew wq) hb5) hb6)
                    clear hb5 hb6 r0 r1 r2 r3 r4 x0 x1 x2 y0 y1 y2
                    go_wp2
                    go_roundw
                    case rel => exact ⟨k + 1, by omega, by go_num, by rw [HE.out], hb7⟩
                    case measure => simp [intOf]; omega
              · have HE : Hid ((js.take (k + 1)).any (groundB c l ls x) = false) := by unfold Hid; rw [HT.out, HP.out]; unfold groundB; rw [decide_eq_false h1]; simp
                have hd : decide (y.ep.1 < x.ep.1) = false := decide_eq_false h1
                clear HT h1 y0 y1 y2 x0 x1 x2
                go_wp2
                go_quiet (fail)
                go_wp2
                go_roundw
                case rel => exact ⟨k + 1, by omega, by go_num, by rw [HE.out], below_drewN hbr _⟩
                case measure => simp [intOf]; omega
          · have hkl : k = j + 1 := by omega
            subst hkl
            rw [HG.out]
            have g0 := HX0.out wr hbr
            have g1 := HX1.out wr hbr
            have g2 := HX2.out wr hbr
            have f0 := HZ0.out wr hbr
            have f1 := HZ1.out wr hbr
            have f2 := HZ2.out wr hbr
            have hd : decide (z.ep.1 > x.ep.1) = false := decide_eq_false (by have := HO.out.1; omega)
            have hd2 : decide (x.ep.1 < z.ep.1) = false := decide_eq_false (by have := HO.out.1; omega)
            have hne := HO.out.2
            have q1 : ∀ W', (Op.equalIn 10000 42 (.agg #[.int .i64 z.ep.1, .int .u64 z.root.a.1, .int .u64 z.root.b.1]) (.agg #[.int .i64 x.ep.1, .int .u64 x.root.a.1, .int .u64 x.root.b.1])).run Try.prog W' = .ok false W' := fun W' => by rw [run_equalIn_Chk, decide_eq_false hne]
            have i3 : (0 : Int) ≤ (j : Int) + 1 := by omega
            have i5 : ((j : Int) + 1).toNat = j + 1 := by omega
            have i6 : (0 : Int) ≤ (j : Int) := by omega
            have i7 : (j : Int) < (js.length : Int) := by omega
            clear hne hk
            go_wp2
            go_quiet (fail)
            go_wp2
            go_roundw
            case rel => exact ⟨j + 1, .inl (by omega), by go_num, below_drewN hbr _⟩
            case measure => simp [intOf]; omega
      · have hge : (js.length : Int) ≤ (j : Int) + 1 := by omega
        clear hj hlt
        go_wp2
        go_ret
        exact ⟨rfl, below_then hb hb.size hbr⟩
end Go.Proofs.Ytbfjoakaofgapaa
