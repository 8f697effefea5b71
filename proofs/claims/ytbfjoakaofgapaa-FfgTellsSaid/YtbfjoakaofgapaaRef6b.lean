/- The reference of layer 6: what may be. -/
import Derived.Test.YtbfjoakaofgapaaRef6a
import Derived.Test.YtbfjoakaofgapaaRegSl
namespace Go.Proofs.Ytbfjoakaofgapaa
set_option linter.unusedSimpArgs false
set_option linter.unusedVariables false
set_option linter.unusedSectionVars false
open Go Go.RowKit
set_option maxRecDepth 100000

section
variable {l : List Blk} {k : Nat} {b : Blk}
theorem okAt_zero (h : nameB b = ID.zero) : okAt l k b = false := by simp [okAt, h]
theorem okAt_seen (h : 0 ≤ atZ ((l.map nameB).take k) (nameB b)) : okAt l k b = false := by simp [okAt]; intros; omega
theorem okAt_early (h : b.slot.1 < 1) : okAt l k b = false := by simp [okAt]; intros; omega
theorem okAt_root (h0 : nameB b ≠ ID.zero) (h1 : atZ ((l.map nameB).take k) (nameB b) < 0) (h2 : 1 ≤ b.slot.1) (h3 : b.par = ID.zero) : okAt l k b = true := by simp [okAt, h0, h1, h2, h3]
theorem okAt_lost (h3 : b.par ≠ ID.zero) (h : atZ ((l.map nameB).take k) b.par < 0) : okAt l k b = false := by simp [okAt, h3]; intros; omega
theorem slotAt_nat {j : Nat} {y : Blk} (hy : l[j]? = some y) : slotAt l (j : Int) = y.slot.1 := by
  unfold slotAt; rw [if_neg (by omega)]; simp [hy]
theorem okAt_late (h3 : b.par ≠ ID.zero) {j : Nat} {y : Blk} (hj : atZ ((l.map nameB).take k) b.par = j) (hy : l[j]? = some y) (h : b.slot.1 ≤ y.slot.1) : okAt l k b = false := by
  simp [okAt, h3, hj, slotAt_nat hy]; intros; omega
theorem okAt_good (h0 : nameB b ≠ ID.zero) (h1 : atZ ((l.map nameB).take k) (nameB b) < 0) (h2 : 1 ≤ b.slot.1) {j : Nat} {y : Blk} (hj : atZ ((l.map nameB).take k) b.par = j) (hy : l[j]? = some y) (h : y.slot.1 < b.slot.1) : okAt l k b = true := by
  simp [okAt, h0, h1, h2, hj, slotAt_nat hy, h]
end
set_option maxHeartbeats 4000000 in
theorem rmay6_any (l : List Blk) (v vn : Value) (w : World) (hS : Sl 5 encBlk w v l) (hN : Sl 2 encID w vn (l.map nameB)) :
    Calls Try.prog 106 #[v, vn] w fun e w' => e = .returned (.bool (refMay l)) ∧ Below w.heap.size w w' := by
  have HS := hide hS
  have HN := hide hN
  have hlen := hS.len_le
  obtain ⟨A, cap, rfl, hcap, hmax, hA⟩ := hS
  clear hmax
  have hnl : (l.map nameB).length = l.length := List.length_map ..
  obtain ⟨An, capn, rfl, hcapn, hmaxn, hAn⟩ := hN
  clear hmaxn
  have hg := guardID
  go_enter Try.func106, Try.ntmps106
  go_wp2
  go_loopw [5] (fun i wr => ∃ k : Nat, k ≤ l.length ∧ i = .int .i64 k ∧ mayUpto l k = true ∧ Below w.heap.size w wr) (fun i _ => l.length - (intOf i).toNat)
  case atStart => exact ⟨0, Nat.zero_le _, rfl, rfl, Below.refl _ _⟩
  case round =>
    obtain ⟨k, hk, rfl, hm, hb⟩ := hrel
    have HMU := hide hm
    clear hm
    by_cases hlt : k < l.length
    · obtain ⟨b, hx⟩ : ∃ b, l[k]? = some b := ⟨_, List.getElem?_eq_getElem hlt⟩
      obtain ⟨bb, off, rfl, hbl, hc⟩ := hA (by intro h; subst h; simp at hlt)
      have hxn : (l.map nameB)[k]? = some (nameB b) := by rw [List.getElem?_map, hx]; rfl
      obtain ⟨bn, offn, rfl, hbn, hcn⟩ := hAn (by intro h; rw [h] at hnl; simp at hnl; omega)
      have HC := hide hc
      have HX := hide hx
      have rd : ∀ i u, (encBlk b)[i]? = some u → wr.cell? ⟨bb, off + k * 5 + i, none⟩ = some u := fun i u hu => (hb.cell (p := ⟨bb, _, none⟩) hbl).trans (hc k b hx i u hu)
      have e0 : wr.cell? ⟨bb, off + k * 5, none⟩ = some (.int .i64 b.slot.1) := rd 0 _ rfl
      have e1 := rd 1 _ rfl
      have e2 := rd 2 _ rfl
      have e3 := rd 3 _ rfl
      have e4 := rd 4 _ rfl
      have rn : ∀ i u, (encID (nameB b))[i]? = some u → wr.cell? ⟨bn, offn + k * 2 + i, none⟩ = some u := fun i u hu => (hb.cell (p := ⟨bn, _, none⟩) hbn).trans (hcn k _ hxn i u hu)
      have n0 : wr.cell? ⟨bn, offn + k * 2, none⟩ = some (.int .u64 (nameB b).a.1) := rn 0 _ rfl
      have n1 : wr.cell? ⟨bn, offn + k * 2 + 1, none⟩ = some (.int .u64 (nameB b).b.1) := rn 1 _ rfl
      obtain ⟨nb, hnb⟩ : ∃ nb, nameB b = nb := ⟨_, rfl⟩
      have HNB := hide hnb
      rw [hnb] at n0 n1
      have HBAD : Hid (okAt l k b = false → refMay l = false) := fun h => refMay_bad hx h
      have HOK : Hid (okAt l k b = true → mayUpto l (k + 1) = true) := fun h => mayUpto_succ HMU.out hx h
      clear hx hc hA hxn hcn hAn rd rn hnb hnl
      have i6 : (0 : Int) ≤ (k : Int) := by omega
      have i7 : (k : Int) < (l.length : Int) := by omega
      have i8 : (k : Int) ≤ (capn : Int) := by rw [List.length_map] at hcapn; omega
      have hld : decide (k < l.length) = true := decide_eq_true hlt
      have HN0 := HN.out
      rw [List.length_map] at HN0 ⊢
      replace HN := hide HN0
      clear HN0
      have hgoT : nb = ID.zero → okAt l k b = false := fun h => by unfold okAt; rw [HNB.out, h]; simp
      have HGT := hide hgoT
      clear hgoT
      go_wp2_with fail
      obtain ⟨wq, hwq⟩ : ∃ wq, wr.alloc (.cells #[.int .i64 b.slot.1, .int .i64 b.frm.1, .int .u64 b.par.a.1, .int .u64 b.par.b.1, .int .u64 b.salt.1] 67) = wq := ⟨_, rfl⟩
      have hbq : Below wr.heap.size wr wq := by rw [← hwq]; exact below_alloc _ _
      have hbw : Below w.heap.size w wq := below_then hb hb.size hbq
      have hB : Blok wq wr.heap.size 67 #[.int .i64 b.slot.1, .int .i64 b.frm.1, .int .u64 b.par.a.1, .int .u64 b.par.b.1, .int .u64 b.salt.1] := by rw [← hwq]; exact Blok.new _ _ _
      have n0' : ∀ w', Below wq.heap.size wq w' → w'.cell? ⟨bn, offn + k * 2, none⟩ = some (.int .u64 nb.a.1) := fun w' h => ((below_then hbq hbq.size h).cell (p := ⟨bn, _, none⟩) (Nat.lt_of_lt_of_le hbn hb.size)).trans n0
      have n1' : ∀ w', Below wq.heap.size wq w' → w'.cell? ⟨bn, offn + k * 2 + 1, none⟩ = some (.int .u64 nb.b.1) := fun w' h => ((below_then hbq hbq.size h).cell (p := ⟨bn, _, none⟩) (Nat.lt_of_lt_of_le hbn hb.size)).trans n1
      rw [hwq]
      clear hwq e0 e1 e2 e3 e4 n0 n1
      have r0 := hB.ext 0 rfl
      have HBL := hide hbl
      by_cases h0 : nb = ID.zero
      · have hq : ∀ W', (Op.equalIn 10000 28 (.agg #[.int .u64 nb.a.1, .int .u64 nb.b.1]) (.agg #[.int .u64 0, .int .u64 0])).run Try.prog W' = .ok true W' := fun W' => by have := run_equalIn_ID nb ID.zero W'; rw [decide_eq_true h0] at this; exact this
        have HE := hide (HBAD.out (HGT.out h0))
        clear h0
        go_wp2
        refine wp_region_held_drew (S := fun w' => Below wq.heap.size wq w') (by kernel_rfl) (below_drew wq) (fun hH => ?_)
        refine wpAnyH_take (i := 0) (oi := { dst := some 18, op := Go.Op.move (Go.Operand.tmp 1), type := 36, pos := "ref.go:37", after := #[], guard := none }) (v := ?_) rfl (by kernel_rfl) (by kernel_rfl) (by kernel_rfl) (fun _ _ _ h => h) (Or.inl ⟨by rfl, ?hy⟩) hH ?_
        case hy => (intro w hSw; (try dsimp only at hSw); go_simp; try with_reducible rfl)
        try simp only [Act.put, List.setIfInBounds_toArray, List.set_cons_zero, List.set_cons_succ]
        refine wpAnyH_take (i := 1) (oi := { dst := some 19, op := Go.Op.move (Go.Operand.tmp 5), type := 3, pos := "ref.go:37", after := #[], guard := none }) (v := ?_) rfl (by kernel_rfl) (by kernel_rfl) (by kernel_rfl) (fun _ _ _ h => h) (Or.inl ⟨by rfl, ?hy⟩) hH ?_
        case hy => (intro w hSw; (try dsimp only at hSw); go_simp; try with_reducible rfl)
        try simp only [Act.put, List.setIfInBounds_toArray, List.set_cons_zero, List.set_cons_succ]
        refine wpAnyH_take (i := 2) (oi := { dst := some 20, op := Go.Op.indexAddr 36 (Go.Operand.tmp 18) (Go.Operand.tmp 19), type := 0, pos := "ref.go:37", after := #[{ on := 0, ground := Go.Ground.data }, { on := 1, ground := Go.Ground.data }], guard := none }) (v := ?_) rfl (by kernel_rfl) (by kernel_rfl) (by kernel_rfl) (fun _ _ _ h => h) (Or.inl ⟨by rfl, ?hy⟩) hH ?_
        case hy => (intro w hSw; (try dsimp only at hSw); go_simp; try with_reducible rfl)
        try simp only [Act.put, List.setIfInBounds_toArray, List.set_cons_zero, List.set_cons_succ]
        refine wpAnyH_take (i := 3) (oi := { dst := some 21, op := Go.Op.load 28 (Go.Operand.tmp 20), type := 28, pos := "ref.go:37", after := #[{ on := 2, ground := Go.Ground.data }], guard := none }) (v := ?_) rfl (by kernel_rfl) (by kernel_rfl) (by kernel_rfl) (fun _ _ _ h => h) (Or.inl ⟨by rfl, ?hy⟩) hH ?_
        case hy => (intro w hSw; (try dsimp only at hSw); go_simp; try with_reducible rfl)
        try simp only [Act.put, List.setIfInBounds_toArray, List.set_cons_zero, List.set_cons_succ]
        refine wpAnyH_take (i := 4) (oi := { dst := some 22, op := Go.Op.build 28 #[], type := 28, pos := "ref.go:37", after := #[], guard := none }) (v := ?_) rfl (by kernel_rfl) (by kernel_rfl) (by kernel_rfl) (fun _ _ _ h => h) (Or.inl ⟨by rfl, ?hy⟩) hH ?_
        case hy => (intro w hSw; (try dsimp only at hSw); go_simp; try with_reducible rfl)
        try simp only [Act.put, List.setIfInBounds_toArray, List.set_cons_zero, List.set_cons_succ]
        refine wpAnyH_take (i := 5) (oi := { dst := some 23, op := Go.Op.binOp Go.BinOp.eql 28 (Go.Operand.tmp 21) (Go.Operand.tmp 22) 28, type := 4, pos := "ref.go:37", after := #[{ on := 3, ground := Go.Ground.data }, { on := 4, ground := Go.Ground.data }], guard := none }) (v := ?_) rfl (by kernel_rfl) (by kernel_rfl) (by kernel_rfl) (fun _ _ _ h => h) (Or.inl ⟨by rfl, ?hy⟩) hH ?_
        case hy => (intro w hSw; (try dsimp only at hSw); go_simp; try with_reducible rfl)
        try simp only [Act.put, List.setIfInBounds_toArray, List.set_cons_zero, List.set_cons_succ]
        refine wpAnyH_take (i := 6) (oi := { dst := some 24, op := Go.Op.move (Go.Operand.tmp 23), type := 4, pos := "ref.go:37", after := #[{ on := 5, ground := Go.Ground.data }], guard := none }) (v := ?_) rfl (by kernel_rfl) (by kernel_rfl) (by kernel_rfl) (fun _ _ _ h => h) (Or.inl ⟨by rfl, ?hy⟩) hH ?_
        case hy => (intro w hSw; (try dsimp only at hSw); go_simp; try with_reducible rfl)
        try simp only [Act.put, List.setIfInBounds_toArray, List.set_cons_zero, List.set_cons_succ]
        refine wpAnyH_take (i := 7) (oi := { dst := some 25, op := Go.Op.move (Go.Operand.tmp 1), type := 36, pos := "ref.go:37", after := #[{ on := 6, ground := Go.Ground.guard }], guard := some (6, false) }) (v := undef) rfl (by kernel_rfl) (by kernel_rfl) (by kernel_rfl) (fun _ _ _ h => h) (Or.inr ⟨by rfl, rfl⟩) hH ?_
        try simp only [Act.put, List.setIfInBounds_toArray, List.set_cons_zero, List.set_cons_succ]
        refine wpAnyH_take (i := 8) (oi := { dst := some 26, op := Go.Op.move (Go.Operand.tmp 5), type := 3, pos := "ref.go:37", after := #[{ on := 6, ground := Go.Ground.guard }], guard := some (6, false) }) (v := undef) rfl (by kernel_rfl) (by kernel_rfl) (by kernel_rfl) (fun _ _ _ h => h) (Or.inr ⟨by rfl, rfl⟩) hH ?_
        try simp only [Act.put, List.setIfInBounds_toArray, List.set_cons_zero, List.set_cons_succ]
        refine wpAnyH_take (i := 9) (oi := { dst := some 27, op := Go.Op.slice 36 (Go.Operand.tmp 25) none (some (Go.Operand.tmp 26)) none, type := 36, pos := "ref.go:37", after := #[{ on := 7, ground := Go.Ground.data }, { on := 8, ground := Go.Ground.data }, { on := 6, ground := Go.Ground.guard }], guard := some (6, false) }) (v := undef) rfl (by kernel_rfl) (by kernel_rfl) (by kernel_rfl) (fun _ _ _ h => h) (Or.inr ⟨by rfl, rfl⟩) hH ?_
        try simp only [Act.put, List.setIfInBounds_toArray, List.set_cons_zero, List.set_cons_succ]
        refine wpAnyH_take (i := 10) (oi := { dst := some 28, op := Go.Op.move (Go.Operand.tmp 1), type := 36, pos := "ref.go:37", after := #[{ on := 6, ground := Go.Ground.guard }], guard := some (6, false) }) (v := undef) rfl (by kernel_rfl) (by kernel_rfl) (by kernel_rfl) (fun _ _ _ h => h) (Or.inr ⟨by rfl, rfl⟩) hH ?_
        try simp only [Act.put, List.setIfInBounds_toArray, List.set_cons_zero, List.set_cons_succ]
        refine wpAnyH_take (i := 11) (oi := { dst := some 29, op := Go.Op.move (Go.Operand.tmp 5), type := 3, pos := "ref.go:37", after := #[{ on := 6, ground := Go.Ground.guard }], guard := some (6, false) }) (v := undef) rfl (by kernel_rfl) (by kernel_rfl) (by kernel_rfl) (fun _ _ _ h => h) (Or.inr ⟨by rfl, rfl⟩) hH ?_
        try simp only [Act.put, List.setIfInBounds_toArray, List.set_cons_zero, List.set_cons_succ]
        refine wpAnyH_take (i := 12) (oi := { dst := some 30, op := Go.Op.indexAddr 36 (Go.Operand.tmp 28) (Go.Operand.tmp 29), type := 0, pos := "ref.go:37", after := #[{ on := 10, ground := Go.Ground.data }, { on := 11, ground := Go.Ground.data }, { on := 6, ground := Go.Ground.guard }], guard := some (6, false) }) (v := undef) rfl (by kernel_rfl) (by kernel_rfl) (by kernel_rfl) (fun _ _ _ h => h) (Or.inr ⟨by rfl, rfl⟩) hH ?_
        try simp only [Act.put, List.setIfInBounds_toArray, List.set_cons_zero, List.set_cons_succ]
        refine wpAnyH_take (i := 13) (oi := { dst := some 31, op := Go.Op.load 28 (Go.Operand.tmp 30), type := 28, pos := "ref.go:37", after := #[{ on := 12, ground := Go.Ground.data }, { on := 6, ground := Go.Ground.guard }], guard := some (6, false) }) (v := undef) rfl (by kernel_rfl) (by kernel_rfl) (by kernel_rfl) (fun _ _ _ h => h) (Or.inr ⟨by rfl, rfl⟩) hH ?_
        try simp only [Act.put, List.setIfInBounds_toArray, List.set_cons_zero, List.set_cons_succ]
        refine wpAnyH_take (i := 14) (oi := { dst := some 32, op := Go.Op.call { callee := Go.Callee.value (Go.Operand.func 108), args := #[Go.Operand.tmp 27, Go.Operand.tmp 31], argTypes := #[36, 28] }, type := 3, pos := "ref.go:37", after := #[{ on := 9, ground := Go.Ground.data }, { on := 13, ground := Go.Ground.data }, { on := 6, ground := Go.Ground.chain }, { on := 6, ground := Go.Ground.guard }], guard := some (6, false) }) (v := undef) rfl (by kernel_rfl) (by kernel_rfl) (by kernel_rfl) (fun _ _ _ h => h) (Or.inr ⟨by rfl, rfl⟩) hH ?_
        try simp only [Act.put, List.setIfInBounds_toArray, List.set_cons_zero, List.set_cons_succ]
        refine wpAnyH_take (i := 15) (oi := { dst := some 33, op := Go.Op.binOp Go.BinOp.geq 3 (Go.Operand.tmp 32) (Go.Operand.const (Go.Value.int Go.IntKind.i64 0)) 3, type := 4, pos := "ref.go:37", after := #[{ on := 14, ground := Go.Ground.data }, { on := 6, ground := Go.Ground.guard }], guard := some (6, false) }) (v := undef) rfl (by kernel_rfl) (by kernel_rfl) (by kernel_rfl) (fun _ _ _ h => h) (Or.inr ⟨by rfl, rfl⟩) hH ?_
        try simp only [Act.put, List.setIfInBounds_toArray, List.set_cons_zero, List.set_cons_succ]
        refine wpAnyH_take (i := 16) (oi := { dst := some 34, op := Go.Op.pick (Go.Operand.tmp 24) (Go.Operand.const (Go.Value.bool true)) (Go.Operand.tmp 33), type := 4, pos := "ref.go:37", after := #[{ on := 6, ground := Go.Ground.data }, { on := 15, ground := Go.Ground.data }], guard := none }) (v := ?_) rfl (by kernel_rfl) (by kernel_rfl) (by kernel_rfl) (fun _ _ _ h => h) (Or.inl ⟨by rfl, ?hy⟩) hH ?_
        case hy => (intro w hSw; (try dsimp only at hSw); go_simp; try with_reducible rfl)
        try simp only [Act.put, List.setIfInBounds_toArray, List.set_cons_zero, List.set_cons_succ]
        refine wpAnyH_take (i := 17) (oi := { dst := some 35, op := Go.Op.move (Go.Operand.tmp 34), type := 4, pos := "ref.go:37", after := #[{ on := 16, ground := Go.Ground.data }, { on := 14, ground := Go.Ground.chain }], guard := none }) (v := ?_) rfl (by kernel_rfl) (by kernel_rfl) (by kernel_rfl) (fun _ _ _ h => h) (Or.inl ⟨by rfl, ?hy⟩) hH ?_
        case hy => (intro w hSw; (try dsimp only at hSw); go_simp; try with_reducible rfl)
        try simp only [Act.put, List.setIfInBounds_toArray, List.set_cons_zero, List.set_cons_succ]
        refine wpAnyH_take (i := 18) (oi := { dst := some 36, op := Go.Op.fieldAddr 67 (Go.Operand.tmp 6) 0, type := 0, pos := "ref.go:37", after := #[{ on := 17, ground := Go.Ground.guard }], guard := some (17, false) }) (v := undef) rfl (by kernel_rfl) (by kernel_rfl) (by kernel_rfl) (fun _ _ _ h => h) (Or.inr ⟨by rfl, rfl⟩) hH ?_
        try simp only [Act.put, List.setIfInBounds_toArray, List.set_cons_zero, List.set_cons_succ]
        refine wpAnyH_take (i := 19) (oi := { dst := some 37, op := Go.Op.load 3 (Go.Operand.tmp 36), type := 3, pos := "ref.go:37", after := #[{ on := 18, ground := Go.Ground.data }, { on := 17, ground := Go.Ground.guard }], guard := some (17, false) }) (v := undef) rfl (by kernel_rfl) (by kernel_rfl) (by kernel_rfl) (fun _ _ _ h => h) (Or.inr ⟨by rfl, rfl⟩) hH ?_
        try simp only [Act.put, List.setIfInBounds_toArray, List.set_cons_zero, List.set_cons_succ]
        refine wpAnyH_take (i := 20) (oi := { dst := some 38, op := Go.Op.binOp Go.BinOp.lss 3 (Go.Operand.tmp 37) (Go.Operand.const (Go.Value.int Go.IntKind.i64 1)) 3, type := 4, pos := "ref.go:37", after := #[{ on := 19, ground := Go.Ground.data }, { on := 17, ground := Go.Ground.guard }], guard := some (17, false) }) (v := undef) rfl (by kernel_rfl) (by kernel_rfl) (by kernel_rfl) (fun _ _ _ h => h) (Or.inr ⟨by rfl, rfl⟩) hH ?_
        try simp only [Act.put, List.setIfInBounds_toArray, List.set_cons_zero, List.set_cons_succ]
        refine wpAnyH_take (i := 21) (oi := { dst := some 39, op := Go.Op.pick (Go.Operand.tmp 35) (Go.Operand.const (Go.Value.bool true)) (Go.Operand.tmp 38), type := 4, pos := "ref.go:37", after := #[{ on := 17, ground := Go.Ground.data }, { on := 20, ground := Go.Ground.data }], guard := none }) (v := ?_) rfl (by kernel_rfl) (by kernel_rfl) (by kernel_rfl) (fun _ _ _ h => h) (Or.inl ⟨by rfl, ?hy⟩) hH ?_
        case hy => (intro w hSw; (try dsimp only at hSw); go_simp; try with_reducible rfl)
        try simp only [Act.put, List.setIfInBounds_toArray, List.set_cons_zero, List.set_cons_succ]
        refine wpAnyH_done (by kernel_rfl) ?_ _
        have hbz := below_then hbw hbw.size hH
        clear hH r0
        go_wp2
        go_ret
        exact ⟨by rw [HE.out]; rfl, hbz⟩
      · have hq : ∀ W', (Op.equalIn 10000 28 (.agg #[.int .u64 nb.a.1, .int .u64 nb.b.1]) (.agg #[.int .u64 0, .int .u64 0])).run Try.prog W' = .ok false W' := fun W' => by have := run_equalIn_ID nb ID.zero W'; rw [decide_eq_false h0] at this; exact this
        have H0 := hide h0
        clear h0
        obtain ⟨z1, hz1⟩ : ∃ z1, atZ ((l.map nameB).take k) nb = z1 := ⟨_, rfl⟩
        have HZ1 := hide hz1
        clear hz1
        by_cases h1 : 0 ≤ z1
        · have hd : decide (z1 ≥ 0) = true := decide_eq_true h1
          have HE := hide (HBAD.out (okAt_seen (by rw [HNB.out, HZ1.out]; exact h1)))
          go_wp2
          refine wp_region_held_drew (S := fun w' => Below wq.heap.size wq w') (by kernel_rfl) (below_drew wq) (fun hH => ?_)
          refine wpAnyH_take (i := 0) (oi := { dst := some 18, op := Go.Op.move (Go.Operand.tmp 1), type := 36, pos := "ref.go:37", after := #[], guard := none }) (v := ?_) rfl (by kernel_rfl) (by kernel_rfl) (by kernel_rfl) (fun _ _ _ h => h) (Or.inl ⟨by rfl, ?hy⟩) hH ?_
          case hy => (intro w hSw; (try dsimp only at hSw); go_simp; try with_reducible rfl)
          try simp only [Act.put, List.setIfInBounds_toArray, List.set_cons_zero, List.set_cons_succ]
          refine wpAnyH_take (i := 1) (oi := { dst := some 19, op := Go.Op.move (Go.Operand.tmp 5), type := 3, pos := "ref.go:37", after := #[], guard := none }) (v := ?_) rfl (by kernel_rfl) (by kernel_rfl) (by kernel_rfl) (fun _ _ _ h => h) (Or.inl ⟨by rfl, ?hy⟩) hH ?_
          case hy => (intro w hSw; (try dsimp only at hSw); go_simp; try with_reducible rfl)
          try simp only [Act.put, List.setIfInBounds_toArray, List.set_cons_zero, List.set_cons_succ]
          refine wpAnyH_take (i := 2) (oi := { dst := some 20, op := Go.Op.indexAddr 36 (Go.Operand.tmp 18) (Go.Operand.tmp 19), type := 0, pos := "ref.go:37", after := #[{ on := 0, ground := Go.Ground.data }, { on := 1, ground := Go.Ground.data }], guard := none }) (v := ?_) rfl (by kernel_rfl) (by kernel_rfl) (by kernel_rfl) (fun _ _ _ h => h) (Or.inl ⟨by rfl, ?hy⟩) hH ?_
          case hy => (intro w hSw; (try dsimp only at hSw); go_simp; try with_reducible rfl)
          try simp only [Act.put, List.setIfInBounds_toArray, List.set_cons_zero, List.set_cons_succ]
          refine wpAnyH_take (i := 3) (oi := { dst := some 21, op := Go.Op.load 28 (Go.Operand.tmp 20), type := 28, pos := "ref.go:37", after := #[{ on := 2, ground := Go.Ground.data }], guard := none }) (v := ?_) rfl (by kernel_rfl) (by kernel_rfl) (by kernel_rfl) (fun _ _ _ h => h) (Or.inl ⟨by rfl, ?hy⟩) hH ?_
          case hy => (intro w hSw; (try dsimp only at hSw); go_simp; try with_reducible rfl)
          try simp only [Act.put, List.setIfInBounds_toArray, List.set_cons_zero, List.set_cons_succ]
          refine wpAnyH_take (i := 4) (oi := { dst := some 22, op := Go.Op.build 28 #[], type := 28, pos := "ref.go:37", after := #[], guard := none }) (v := ?_) rfl (by kernel_rfl) (by kernel_rfl) (by kernel_rfl) (fun _ _ _ h => h) (Or.inl ⟨by rfl, ?hy⟩) hH ?_
          case hy => (intro w hSw; (try dsimp only at hSw); go_simp; try with_reducible rfl)
          try simp only [Act.put, List.setIfInBounds_toArray, List.set_cons_zero, List.set_cons_succ]
          refine wpAnyH_take (i := 5) (oi := { dst := some 23, op := Go.Op.binOp Go.BinOp.eql 28 (Go.Operand.tmp 21) (Go.Operand.tmp 22) 28, type := 4, pos := "ref.go:37", after := #[{ on := 3, ground := Go.Ground.data }, { on := 4, ground := Go.Ground.data }], guard := none }) (v := ?_) rfl (by kernel_rfl) (by kernel_rfl) (by kernel_rfl) (fun _ _ _ h => h) (Or.inl ⟨by rfl, ?hy⟩) hH ?_
          case hy => (intro w hSw; (try dsimp only at hSw); go_simp; try with_reducible rfl)
          try simp only [Act.put, List.setIfInBounds_toArray, List.set_cons_zero, List.set_cons_succ]
          refine wpAnyH_take (i := 6) (oi := { dst := some 24, op := Go.Op.move (Go.Operand.tmp 23), type := 4, pos := "ref.go:37", after := #[{ on := 5, ground := Go.Ground.data }], guard := none }) (v := ?_) rfl (by kernel_rfl) (by kernel_rfl) (by kernel_rfl) (fun _ _ _ h => h) (Or.inl ⟨by rfl, ?hy⟩) hH ?_
          case hy => (intro w hSw; (try dsimp only at hSw); go_simp; try with_reducible rfl)
          try simp only [Act.put, List.setIfInBounds_toArray, List.set_cons_zero, List.set_cons_succ]
          refine wpAnyH_take (i := 7) (oi := { dst := some 25, op := Go.Op.move (Go.Operand.tmp 1), type := 36, pos := "ref.go:37", after := #[{ on := 6, ground := Go.Ground.guard }], guard := some (6, false) }) (v := ?_) rfl (by kernel_rfl) (by kernel_rfl) (by kernel_rfl) (fun _ _ _ h => h) (Or.inl ⟨by rfl, ?hy⟩) hH ?_
          case hy => (intro w hSw; (try dsimp only at hSw); go_simp; try with_reducible rfl)
          try simp only [Act.put, List.setIfInBounds_toArray, List.set_cons_zero, List.set_cons_succ]
          refine wpAnyH_take (i := 8) (oi := { dst := some 26, op := Go.Op.move (Go.Operand.tmp 5), type := 3, pos := "ref.go:37", after := #[{ on := 6, ground := Go.Ground.guard }], guard := some (6, false) }) (v := ?_) rfl (by kernel_rfl) (by kernel_rfl) (by kernel_rfl) (fun _ _ _ h => h) (Or.inl ⟨by rfl, ?hy⟩) hH ?_
          case hy => (intro w hSw; (try dsimp only at hSw); go_simp; try with_reducible rfl)
          try simp only [Act.put, List.setIfInBounds_toArray, List.set_cons_zero, List.set_cons_succ]
          refine wpAnyH_take (i := 10) (oi := { dst := some 28, op := Go.Op.move (Go.Operand.tmp 1), type := 36, pos := "ref.go:37", after := #[{ on := 6, ground := Go.Ground.guard }], guard := some (6, false) }) (v := ?_) rfl (by kernel_rfl) (by kernel_rfl) (by kernel_rfl) (fun _ _ _ h => h) (Or.inl ⟨by rfl, ?hy⟩) hH ?_
          case hy => (intro w hSw; (try dsimp only at hSw); go_simp; try with_reducible rfl)
          try simp only [Act.put, List.setIfInBounds_toArray, List.set_cons_zero, List.set_cons_succ]
          refine wpAnyH_take (i := 11) (oi := { dst := some 29, op := Go.Op.move (Go.Operand.tmp 5), type := 3, pos := "ref.go:37", after := #[{ on := 6, ground := Go.Ground.guard }], guard := some (6, false) }) (v := ?_) rfl (by kernel_rfl) (by kernel_rfl) (by kernel_rfl) (fun _ _ _ h => h) (Or.inl ⟨by rfl, ?hy⟩) hH ?_
          case hy => (intro w hSw; (try dsimp only at hSw); go_simp; try with_reducible rfl)
          try simp only [Act.put, List.setIfInBounds_toArray, List.set_cons_zero, List.set_cons_succ]
          refine wpAnyH_take (i := 12) (oi := { dst := some 30, op := Go.Op.indexAddr 36 (Go.Operand.tmp 28) (Go.Operand.tmp 29), type := 0, pos := "ref.go:37", after := #[{ on := 10, ground := Go.Ground.data }, { on := 11, ground := Go.Ground.data }, { on := 6, ground := Go.Ground.guard }], guard := some (6, false) }) (v := ?_) rfl (by kernel_rfl) (by kernel_rfl) (by kernel_rfl) (fun _ _ _ h => h) (Or.inl ⟨by rfl, ?hy⟩) hH ?_
          case hy => (intro w hSw; (try dsimp only at hSw); go_simp; try with_reducible rfl)
          try simp only [Act.put, List.setIfInBounds_toArray, List.set_cons_zero, List.set_cons_succ]
          refine wpAnyH_take (i := 13) (oi := { dst := some 31, op := Go.Op.load 28 (Go.Operand.tmp 30), type := 28, pos := "ref.go:37", after := #[{ on := 12, ground := Go.Ground.data }, { on := 6, ground := Go.Ground.guard }], guard := some (6, false) }) (v := ?_) rfl (by kernel_rfl) (by kernel_rfl) (by kernel_rfl) (fun _ _ _ h => h) (Or.inl ⟨by rfl, ?hy⟩) hH ?_
          case hy => (intro w hSw; (try dsimp only at hSw); go_simp; try with_reducible rfl)
          try simp only [Act.put, List.setIfInBounds_toArray, List.set_cons_zero, List.set_cons_succ]
          refine wpAnyH_ready (rs := [9]) (by kernel_rfl) (by simp) ?_
          refine (AllReadyH.cons (o := { dst := some 27, op := Go.Op.slice 36 (Go.Operand.tmp 25) none (some (Go.Operand.tmp 26)) none, type := 36, pos := "ref.go:37", after := #[{ on := 7, ground := Go.Ground.data }, { on := 8, ground := Go.Ground.data }, { on := 6, ground := Go.Ground.guard }], guard := some (6, false) }) rfl (fun K hK => ?_) AllReadyH.nil)
          refine step_slUpto (k := 2) (enc := encID) (xs := l.map nameB) (by kernel_rfl) (.tmp 25) (.tmp 26) rfl elemID sizeID rfl k rfl (HN.out.after (below_then hbw hbw.size hH)) (by rw [List.length_map]; omega) ?_
          intro v2 hv2
          try go_simp
          refine hK.out _ _ (hH) (fun hH2 => ?_)
          clear hK K hH
          have hH := hH2
          clear hH2
          try simp only [Act.put, List.setIfInBounds_toArray, List.set_cons_zero, List.set_cons_succ]
          refine wpAnyH_ready (rs := [14]) (by kernel_rfl) (by simp) ?_
          refine (AllReadyH.cons (o := { dst := some 32, op := Go.Op.call { callee := Go.Callee.value (Go.Operand.func 108), args := #[Go.Operand.tmp 27, Go.Operand.tmp 31], argTypes := #[36, 28] }, type := 3, pos := "ref.go:37", after := #[{ on := 9, ground := Go.Ground.data }, { on := 13, ground := Go.Ground.data }, { on := 6, ground := Go.Ground.chain }, { on := 6, ground := Go.Ground.guard }], guard := some (6, false) }) rfl (fun K hK => ?_) AllReadyH.nil)
          go_simp
          go_at_call 108
          refine (rat_any ((l.map nameB).take k) v2 nb _ hv2).mono ?_
          rw [HZ1.out]
          rintro e w5 ⟨rfl, hw5⟩
          try go_simp
          refine hK.out _ _ (below_ext hH hw5) (fun hH2 => ?_)
          clear hK K hH
          have hH := hH2
          clear hH2
          try simp only [Act.put, List.setIfInBounds_toArray, List.set_cons_zero, List.set_cons_succ]
          refine wpAnyH_take (i := 15) (oi := { dst := some 33, op := Go.Op.binOp Go.BinOp.geq 3 (Go.Operand.tmp 32) (Go.Operand.const (Go.Value.int Go.IntKind.i64 0)) 3, type := 4, pos := "ref.go:37", after := #[{ on := 14, ground := Go.Ground.data }, { on := 6, ground := Go.Ground.guard }], guard := some (6, false) }) (v := ?_) rfl (by kernel_rfl) (by kernel_rfl) (by kernel_rfl) (fun _ _ _ h => h) (Or.inl ⟨by rfl, ?hy⟩) hH ?_
          case hy => (intro w hSw; (try dsimp only at hSw); go_simp; try with_reducible rfl)
          try simp only [Act.put, List.setIfInBounds_toArray, List.set_cons_zero, List.set_cons_succ]
          refine wpAnyH_take (i := 16) (oi := { dst := some 34, op := Go.Op.pick (Go.Operand.tmp 24) (Go.Operand.const (Go.Value.bool true)) (Go.Operand.tmp 33), type := 4, pos := "ref.go:37", after := #[{ on := 6, ground := Go.Ground.data }, { on := 15, ground := Go.Ground.data }], guard := none }) (v := ?_) rfl (by kernel_rfl) (by kernel_rfl) (by kernel_rfl) (fun _ _ _ h => h) (Or.inl ⟨by rfl, ?hy⟩) hH ?_
          case hy => (intro w hSw; (try dsimp only at hSw); go_simp; try with_reducible rfl)
          try simp only [Act.put, List.setIfInBounds_toArray, List.set_cons_zero, List.set_cons_succ]
          refine wpAnyH_take (i := 17) (oi := { dst := some 35, op := Go.Op.move (Go.Operand.tmp 34), type := 4, pos := "ref.go:37", after := #[{ on := 16, ground := Go.Ground.data }, { on := 14, ground := Go.Ground.chain }], guard := none }) (v := ?_) rfl (by kernel_rfl) (by kernel_rfl) (by kernel_rfl) (fun _ _ _ h => h) (Or.inl ⟨by rfl, ?hy⟩) hH ?_
          case hy => (intro w hSw; (try dsimp only at hSw); go_simp; try with_reducible rfl)
          try simp only [Act.put, List.setIfInBounds_toArray, List.set_cons_zero, List.set_cons_succ]
          refine wpAnyH_take (i := 18) (oi := { dst := some 36, op := Go.Op.fieldAddr 67 (Go.Operand.tmp 6) 0, type := 0, pos := "ref.go:37", after := #[{ on := 17, ground := Go.Ground.guard }], guard := some (17, false) }) (v := undef) rfl (by kernel_rfl) (by kernel_rfl) (by kernel_rfl) (fun _ _ _ h => h) (Or.inr ⟨by rfl, rfl⟩) hH ?_
          try simp only [Act.put, List.setIfInBounds_toArray, List.set_cons_zero, List.set_cons_succ]
          refine wpAnyH_take (i := 19) (oi := { dst := some 37, op := Go.Op.load 3 (Go.Operand.tmp 36), type := 3, pos := "ref.go:37", after := #[{ on := 18, ground := Go.Ground.data }, { on := 17, ground := Go.Ground.guard }], guard := some (17, false) }) (v := undef) rfl (by kernel_rfl) (by kernel_rfl) (by kernel_rfl) (fun _ _ _ h => h) (Or.inr ⟨by rfl, rfl⟩) hH ?_
          try simp only [Act.put, List.setIfInBounds_toArray, List.set_cons_zero, List.set_cons_succ]
          refine wpAnyH_take (i := 20) (oi := { dst := some 38, op := Go.Op.binOp Go.BinOp.lss 3 (Go.Operand.tmp 37) (Go.Operand.const (Go.Value.int Go.IntKind.i64 1)) 3, type := 4, pos := "ref.go:37", after := #[{ on := 19, ground := Go.Ground.data }, { on := 17, ground := Go.Ground.guard }], guard := some (17, false) }) (v := undef) rfl (by kernel_rfl) (by kernel_rfl) (by kernel_rfl) (fun _ _ _ h => h) (Or.inr ⟨by rfl, rfl⟩) hH ?_
          try simp only [Act.put, List.setIfInBounds_toArray, List.set_cons_zero, List.set_cons_succ]
          refine wpAnyH_take (i := 21) (oi := { dst := some 39, op := Go.Op.pick (Go.Operand.tmp 35) (Go.Operand.const (Go.Value.bool true)) (Go.Operand.tmp 38), type := 4, pos := "ref.go:37", after := #[{ on := 17, ground := Go.Ground.data }, { on := 20, ground := Go.Ground.data }], guard := none }) (v := ?_) rfl (by kernel_rfl) (by kernel_rfl) (by kernel_rfl) (fun _ _ _ h => h) (Or.inl ⟨by rfl, ?hy⟩) hH ?_
          case hy => (intro w hSw; (try dsimp only at hSw); go_simp; try with_reducible rfl)
          try simp only [Act.put, List.setIfInBounds_toArray, List.set_cons_zero, List.set_cons_succ]
          refine wpAnyH_done (by kernel_rfl) ?_ _
          have hbz := below_then hbw hbw.size hH
          clear hH r0 hw5 hv2
          go_wp2
          go_ret
          exact ⟨by rw [HE.out]; rfl, hbz⟩
        · have hd : decide (z1 ≥ 0) = false := decide_eq_false h1
          have H1 : Hid (z1 < 0) := by unfold Hid; omega
          by_cases h2 : b.slot.1 < 1
          · have hd2 : decide (b.slot.1 < 1) = true := decide_eq_true h2
            have HE := hide (HBAD.out (okAt_early h2))
            go_wp2
            refine wp_region_held_drew (S := fun w' => Below wq.heap.size wq w') (by kernel_rfl) (below_drew wq) (fun hH => ?_)
            refine wpAnyH_take (i := 0) (oi := { dst := some 18, op := Go.Op.move (Go.Operand.tmp 1), type := 36, pos := "ref.go:37", after := #[], guard := none }) (v := ?_) rfl (by kernel_rfl) (by kernel_rfl) (by kernel_rfl) (fun _ _ _ h => h) (Or.inl ⟨by rfl, ?hy⟩) hH ?_
            case hy => (intro w hSw; (try dsimp only at hSw); go_simp; try with_reducible rfl)
            try simp only [Act.put, List.setIfInBounds_toArray, List.set_cons_zero, List.set_cons_succ]
            refine wpAnyH_take (i := 1) (oi := { dst := some 19, op := Go.Op.move (Go.Operand.tmp 5), type := 3, pos := "ref.go:37", after := #[], guard := none }) (v := ?_) rfl (by kernel_rfl) (by kernel_rfl) (by kernel_rfl) (fun _ _ _ h => h) (Or.inl ⟨by rfl, ?hy⟩) hH ?_
            case hy => (intro w hSw; (try dsimp only at hSw); go_simp; try with_reducible rfl)
            try simp only [Act.put, List.setIfInBounds_toArray, List.set_cons_zero, List.set_cons_succ]
            refine wpAnyH_take (i := 2) (oi := { dst := some 20, op := Go.Op.indexAddr 36 (Go.Operand.tmp 18) (Go.Operand.tmp 19), type := 0, pos := "ref.go:37", after := #[{ on := 0, ground := Go.Ground.data }, { on := 1, ground := Go.Ground.data }], guard := none }) (v := ?_) rfl (by kernel_rfl) (by kernel_rfl) (by kernel_rfl) (fun _ _ _ h => h) (Or.inl ⟨by rfl, ?hy⟩) hH ?_
            case hy => (intro w hSw; (try dsimp only at hSw); go_simp; try with_reducible rfl)
            try simp only [Act.put, List.setIfInBounds_toArray, List.set_cons_zero, List.set_cons_succ]
            refine wpAnyH_take (i := 3) (oi := { dst := some 21, op := Go.Op.load 28 (Go.Operand.tmp 20), type := 28, pos := "ref.go:37", after := #[{ on := 2, ground := Go.Ground.data }], guard := none }) (v := ?_) rfl (by kernel_rfl) (by kernel_rfl) (by kernel_rfl) (fun _ _ _ h => h) (Or.inl ⟨by rfl, ?hy⟩) hH ?_
            case hy => (intro w hSw; (try dsimp only at hSw); go_simp; try with_reducible rfl)
            try simp only [Act.put, List.setIfInBounds_toArray, List.set_cons_zero, List.set_cons_succ]
            refine wpAnyH_take (i := 4) (oi := { dst := some 22, op := Go.Op.build 28 #[], type := 28, pos := "ref.go:37", after := #[], guard := none }) (v := ?_) rfl (by kernel_rfl) (by kernel_rfl) (by kernel_rfl) (fun _ _ _ h => h) (Or.inl ⟨by rfl, ?hy⟩) hH ?_
            case hy => (intro w hSw; (try dsimp only at hSw); go_simp; try with_reducible rfl)
            try simp only [Act.put, List.setIfInBounds_toArray, List.set_cons_zero, List.set_cons_succ]
            refine wpAnyH_take (i := 5) (oi := { dst := some 23, op := Go.Op.binOp Go.BinOp.eql 28 (Go.Operand.tmp 21) (Go.Operand.tmp 22) 28, type := 4, pos := "ref.go:37", after := #[{ on := 3, ground := Go.Ground.data }, { on := 4, ground := Go.Ground.data }], guard := none }) (v := ?_) rfl (by kernel_rfl) (by kernel_rfl) (by kernel_rfl) (fun _ _ _ h => h) (Or.inl ⟨by rfl, ?hy⟩) hH ?_
            case hy => (intro w hSw; (try dsimp only at hSw); go_simp; try with_reducible rfl)
            try simp only [Act.put, List.setIfInBounds_toArray, List.set_cons_zero, List.set_cons_succ]
            refine wpAnyH_take (i := 6) (oi := { dst := some 24, op := Go.Op.move (Go.Operand.tmp 23), type := 4, pos := "ref.go:37", after := #[{ on := 5, ground := Go.Ground.data }], guard := none }) (v := ?_) rfl (by kernel_rfl) (by kernel_rfl) (by kernel_rfl) (fun _ _ _ h => h) (Or.inl ⟨by rfl, ?hy⟩) hH ?_
            case hy => (intro w hSw; (try dsimp only at hSw); go_simp; try with_reducible rfl)
            try simp only [Act.put, List.setIfInBounds_toArray, List.set_cons_zero, List.set_cons_succ]
            refine wpAnyH_take (i := 7) (oi := { dst := some 25, op := Go.Op.move (Go.Operand.tmp 1), type := 36, pos := "ref.go:37", after := #[{ on := 6, ground := Go.Ground.guard }], guard := some (6, false) }) (v := ?_) rfl (by kernel_rfl) (by kernel_rfl) (by kernel_rfl) (fun _ _ _ h => h) (Or.inl ⟨by rfl, ?hy⟩) hH ?_
            case hy => (intro w hSw; (try dsimp only at hSw); go_simp; try with_reducible rfl)
            try simp only [Act.put, List.setIfInBounds_toArray, List.set_cons_zero, List.set_cons_succ]
            refine wpAnyH_take (i := 8) (oi := { dst := some 26, op := Go.Op.move (Go.Operand.tmp 5), type := 3, pos := "ref.go:37", after := #[{ on := 6, ground := Go.Ground.guard }], guard := some (6, false) }) (v := ?_) rfl (by kernel_rfl) (by kernel_rfl) (by kernel_rfl) (fun _ _ _ h => h) (Or.inl ⟨by rfl, ?hy⟩) hH ?_
            case hy => (intro w hSw; (try dsimp only at hSw); go_simp; try with_reducible rfl)
            try simp only [Act.put, List.setIfInBounds_toArray, List.set_cons_zero, List.set_cons_succ]
            refine wpAnyH_take (i := 10) (oi := { dst := some 28, op := Go.Op.move (Go.Operand.tmp 1), type := 36, pos := "ref.go:37", after := #[{ on := 6, ground := Go.Ground.guard }], guard := some (6, false) }) (v := ?_) rfl (by kernel_rfl) (by kernel_rfl) (by kernel_rfl) (fun _ _ _ h => h) (Or.inl ⟨by rfl, ?hy⟩) hH ?_
            case hy => (intro w hSw; (try dsimp only at hSw); go_simp; try with_reducible rfl)
            try simp only [Act.put, List.setIfInBounds_toArray, List.set_cons_zero, List.set_cons_succ]
            refine wpAnyH_take (i := 11) (oi := { dst := some 29, op := Go.Op.move (Go.Operand.tmp 5), type := 3, pos := "ref.go:37", after := #[{ on := 6, ground := Go.Ground.guard }], guard := some (6, false) }) (v := ?_) rfl (by kernel_rfl) (by kernel_rfl) (by kernel_rfl) (fun _ _ _ h => h) (Or.inl ⟨by rfl, ?hy⟩) hH ?_
            case hy => (intro w hSw; (try dsimp only at hSw); go_simp; try with_reducible rfl)
            try simp only [Act.put, List.setIfInBounds_toArray, List.set_cons_zero, List.set_cons_succ]
            refine wpAnyH_take (i := 12) (oi := { dst := some 30, op := Go.Op.indexAddr 36 (Go.Operand.tmp 28) (Go.Operand.tmp 29), type := 0, pos := "ref.go:37", after := #[{ on := 10, ground := Go.Ground.data }, { on := 11, ground := Go.Ground.data }, { on := 6, ground := Go.Ground.guard }], guard := some (6, false) }) (v := ?_) rfl (by kernel_rfl) (by kernel_rfl) (by kernel_rfl) (fun _ _ _ h => h) (Or.inl ⟨by rfl, ?hy⟩) hH ?_
            case hy => (intro w hSw; (try dsimp only at hSw); go_simp; try with_reducible rfl)
            try simp only [Act.put, List.setIfInBounds_toArray, List.set_cons_zero, List.set_cons_succ]
            refine wpAnyH_take (i := 13) (oi := { dst := some 31, op := Go.Op.load 28 (Go.Operand.tmp 30), type := 28, pos := "ref.go:37", after := #[{ on := 12, ground := Go.Ground.data }, { on := 6, ground := Go.Ground.guard }], guard := some (6, false) }) (v := ?_) rfl (by kernel_rfl) (by kernel_rfl) (by kernel_rfl) (fun _ _ _ h => h) (Or.inl ⟨by rfl, ?hy⟩) hH ?_
            case hy => (intro w hSw; (try dsimp only at hSw); go_simp; try with_reducible rfl)
            try simp only [Act.put, List.setIfInBounds_toArray, List.set_cons_zero, List.set_cons_succ]
            refine wpAnyH_ready (rs := [9]) (by kernel_rfl) (by simp) ?_
            refine (AllReadyH.cons (o := { dst := some 27, op := Go.Op.slice 36 (Go.Operand.tmp 25) none (some (Go.Operand.tmp 26)) none, type := 36, pos := "ref.go:37", after := #[{ on := 7, ground := Go.Ground.data }, { on := 8, ground := Go.Ground.data }, { on := 6, ground := Go.Ground.guard }], guard := some (6, false) }) rfl (fun K hK => ?_) AllReadyH.nil)
            refine step_slUpto (k := 2) (enc := encID) (xs := l.map nameB) (by kernel_rfl) (.tmp 25) (.tmp 26) rfl elemID sizeID rfl k rfl (HN.out.after (below_then hbw hbw.size hH)) (by rw [List.length_map]; omega) ?_
            intro v2 hv2
            try go_simp
            refine hK.out _ _ (hH) (fun hH2 => ?_)
            clear hK K hH
            have hH := hH2
            clear hH2
            try simp only [Act.put, List.setIfInBounds_toArray, List.set_cons_zero, List.set_cons_succ]
            refine wpAnyH_ready (rs := [14]) (by kernel_rfl) (by simp) ?_
            refine (AllReadyH.cons (o := { dst := some 32, op := Go.Op.call { callee := Go.Callee.value (Go.Operand.func 108), args := #[Go.Operand.tmp 27, Go.Operand.tmp 31], argTypes := #[36, 28] }, type := 3, pos := "ref.go:37", after := #[{ on := 9, ground := Go.Ground.data }, { on := 13, ground := Go.Ground.data }, { on := 6, ground := Go.Ground.chain }, { on := 6, ground := Go.Ground.guard }], guard := some (6, false) }) rfl (fun K hK => ?_) AllReadyH.nil)
            go_simp
            go_at_call 108
            refine (rat_any ((l.map nameB).take k) v2 nb _ hv2).mono ?_
            rw [HZ1.out]
            rintro e w5 ⟨rfl, hw5⟩
            try go_simp
            refine hK.out _ _ (below_ext hH hw5) (fun hH2 => ?_)
            clear hK K hH
            have hH := hH2
            clear hH2
            try simp only [Act.put, List.setIfInBounds_toArray, List.set_cons_zero, List.set_cons_succ]
            refine wpAnyH_take (i := 15) (oi := { dst := some 33, op := Go.Op.binOp Go.BinOp.geq 3 (Go.Operand.tmp 32) (Go.Operand.const (Go.Value.int Go.IntKind.i64 0)) 3, type := 4, pos := "ref.go:37", after := #[{ on := 14, ground := Go.Ground.data }, { on := 6, ground := Go.Ground.guard }], guard := some (6, false) }) (v := ?_) rfl (by kernel_rfl) (by kernel_rfl) (by kernel_rfl) (fun _ _ _ h => h) (Or.inl ⟨by rfl, ?hy⟩) hH ?_
            case hy => (intro w hSw; (try dsimp only at hSw); go_simp; try with_reducible rfl)
            try simp only [Act.put, List.setIfInBounds_toArray, List.set_cons_zero, List.set_cons_succ]
            refine wpAnyH_take (i := 16) (oi := { dst := some 34, op := Go.Op.pick (Go.Operand.tmp 24) (Go.Operand.const (Go.Value.bool true)) (Go.Operand.tmp 33), type := 4, pos := "ref.go:37", after := #[{ on := 6, ground := Go.Ground.data }, { on := 15, ground := Go.Ground.data }], guard := none }) (v := ?_) rfl (by kernel_rfl) (by kernel_rfl) (by kernel_rfl) (fun _ _ _ h => h) (Or.inl ⟨by rfl, ?hy⟩) hH ?_
            case hy => (intro w hSw; (try dsimp only at hSw); go_simp; try with_reducible rfl)
            try simp only [Act.put, List.setIfInBounds_toArray, List.set_cons_zero, List.set_cons_succ]
            refine wpAnyH_take (i := 17) (oi := { dst := some 35, op := Go.Op.move (Go.Operand.tmp 34), type := 4, pos := "ref.go:37", after := #[{ on := 16, ground := Go.Ground.data }, { on := 14, ground := Go.Ground.chain }], guard := none }) (v := ?_) rfl (by kernel_rfl) (by kernel_rfl) (by kernel_rfl) (fun _ _ _ h => h) (Or.inl ⟨by rfl, ?hy⟩) hH ?_
            case hy => (intro w hSw; (try dsimp only at hSw); go_simp; try with_reducible rfl)
            try simp only [Act.put, List.setIfInBounds_toArray, List.set_cons_zero, List.set_cons_succ]
            refine wpAnyH_take (i := 18) (oi := { dst := some 36, op := Go.Op.fieldAddr 67 (Go.Operand.tmp 6) 0, type := 0, pos := "ref.go:37", after := #[{ on := 17, ground := Go.Ground.guard }], guard := some (17, false) }) (v := ?_) rfl (by kernel_rfl) (by kernel_rfl) (by kernel_rfl) (fun _ _ _ h => h) (Or.inl ⟨by rfl, ?hy⟩) hH ?_
            case hy => (intro w hSw; (try dsimp only at hSw); go_simp; try with_reducible rfl)
            try simp only [Act.put, List.setIfInBounds_toArray, List.set_cons_zero, List.set_cons_succ]
            refine wpAnyH_take (i := 19) (oi := { dst := some 37, op := Go.Op.load 3 (Go.Operand.tmp 36), type := 3, pos := "ref.go:37", after := #[{ on := 18, ground := Go.Ground.data }, { on := 17, ground := Go.Ground.guard }], guard := some (17, false) }) (v := ?_) rfl (by kernel_rfl) (by kernel_rfl) (by kernel_rfl) (fun _ _ _ h => h) (Or.inl ⟨by rfl, ?hy⟩) hH ?_
            case hy => (intro w hSw; (try dsimp only at hSw); go_simp; try with_reducible rfl)
            try simp only [Act.put, List.setIfInBounds_toArray, List.set_cons_zero, List.set_cons_succ]
            refine wpAnyH_take (i := 20) (oi := { dst := some 38, op := Go.Op.binOp Go.BinOp.lss 3 (Go.Operand.tmp 37) (Go.Operand.const (Go.Value.int Go.IntKind.i64 1)) 3, type := 4, pos := "ref.go:37", after := #[{ on := 19, ground := Go.Ground.data }, { on := 17, ground := Go.Ground.guard }], guard := some (17, false) }) (v := ?_) rfl (by kernel_rfl) (by kernel_rfl) (by kernel_rfl) (fun _ _ _ h => h) (Or.inl ⟨by rfl, ?hy⟩) hH ?_
            case hy => (intro w hSw; (try dsimp only at hSw); go_simp; try with_reducible rfl)
            try simp only [Act.put, List.setIfInBounds_toArray, List.set_cons_zero, List.set_cons_succ]
            refine wpAnyH_take (i := 21) (oi := { dst := some 39, op := Go.Op.pick (Go.Operand.tmp 35) (Go.Operand.const (Go.Value.bool true)) (Go.Operand.tmp 38), type := 4, pos := "ref.go:37", after := #[{ on := 17, ground := Go.Ground.data }, { on := 20, ground := Go.Ground.data }], guard := none }) (v := ?_) rfl (by kernel_rfl) (by kernel_rfl) (by kernel_rfl) (fun _ _ _ h => h) (Or.inl ⟨by rfl, ?hy⟩) hH ?_
            case hy => (intro w hSw; (try dsimp only at hSw); go_simp; try with_reducible rfl)
            try simp only [Act.put, List.setIfInBounds_toArray, List.set_cons_zero, List.set_cons_succ]
            refine wpAnyH_done (by kernel_rfl) ?_ _
            have hbz := below_then hbw hbw.size hH
            clear hH r0 hw5 hv2
            go_wp2
            go_ret
            exact ⟨by rw [HE.out]; rfl, hbz⟩
          · have hd2 : decide (b.slot.1 < 1) = false := decide_eq_false h2
            have H2 : Hid (1 ≤ b.slot.1) := by unfold Hid; omega
            go_wp2
            refine wp_region_held_drew (S := fun w' => Below wq.heap.size wq w') (by kernel_rfl) (below_drew wq) (fun hH => ?_)
            refine wpAnyH_take (i := 0) (oi := { dst := some 18, op := Go.Op.move (Go.Operand.tmp 1), type := 36, pos := "ref.go:37", after := #[], guard := none }) (v := ?_) rfl (by kernel_rfl) (by kernel_rfl) (by kernel_rfl) (fun _ _ _ h => h) (Or.inl ⟨by rfl, ?hy⟩) hH ?_
            case hy => (intro w hSw; (try dsimp only at hSw); go_simp; try with_reducible rfl)
            try simp only [Act.put, List.setIfInBounds_toArray, List.set_cons_zero, List.set_cons_succ]
            refine wpAnyH_take (i := 1) (oi := { dst := some 19, op := Go.Op.move (Go.Operand.tmp 5), type := 3, pos := "ref.go:37", after := #[], guard := none }) (v := ?_) rfl (by kernel_rfl) (by kernel_rfl) (by kernel_rfl) (fun _ _ _ h => h) (Or.inl ⟨by rfl, ?hy⟩) hH ?_
            case hy => (intro w hSw; (try dsimp only at hSw); go_simp; try with_reducible rfl)
            try simp only [Act.put, List.setIfInBounds_toArray, List.set_cons_zero, List.set_cons_succ]
            refine wpAnyH_take (i := 2) (oi := { dst := some 20, op := Go.Op.indexAddr 36 (Go.Operand.tmp 18) (Go.Operand.tmp 19), type := 0, pos := "ref.go:37", after := #[{ on := 0, ground := Go.Ground.data }, { on := 1, ground := Go.Ground.data }], guard := none }) (v := ?_) rfl (by kernel_rfl) (by kernel_rfl) (by kernel_rfl) (fun _ _ _ h => h) (Or.inl ⟨by rfl, ?hy⟩) hH ?_
            case hy => (intro w hSw; (try dsimp only at hSw); go_simp; try with_reducible rfl)
            try simp only [Act.put, List.setIfInBounds_toArray, List.set_cons_zero, List.set_cons_succ]
            refine wpAnyH_take (i := 3) (oi := { dst := some 21, op := Go.Op.load 28 (Go.Operand.tmp 20), type := 28, pos := "ref.go:37", after := #[{ on := 2, ground := Go.Ground.data }], guard := none }) (v := ?_) rfl (by kernel_rfl) (by kernel_rfl) (by kernel_rfl) (fun _ _ _ h => h) (Or.inl ⟨by rfl, ?hy⟩) hH ?_
            case hy => (intro w hSw; (try dsimp only at hSw); go_simp; try with_reducible rfl)
            try simp only [Act.put, List.setIfInBounds_toArray, List.set_cons_zero, List.set_cons_succ]
            refine wpAnyH_take (i := 4) (oi := { dst := some 22, op := Go.Op.build 28 #[], type := 28, pos := "ref.go:37", after := #[], guard := none }) (v := ?_) rfl (by kernel_rfl) (by kernel_rfl) (by kernel_rfl) (fun _ _ _ h => h) (Or.inl ⟨by rfl, ?hy⟩) hH ?_
            case hy => (intro w hSw; (try dsimp only at hSw); go_simp; try with_reducible rfl)
            try simp only [Act.put, List.setIfInBounds_toArray, List.set_cons_zero, List.set_cons_succ]
            refine wpAnyH_take (i := 5) (oi := { dst := some 23, op := Go.Op.binOp Go.BinOp.eql 28 (Go.Operand.tmp 21) (Go.Operand.tmp 22) 28, type := 4, pos := "ref.go:37", after := #[{ on := 3, ground := Go.Ground.data }, { on := 4, ground := Go.Ground.data }], guard := none }) (v := ?_) rfl (by kernel_rfl) (by kernel_rfl) (by kernel_rfl) (fun _ _ _ h => h) (Or.inl ⟨by rfl, ?hy⟩) hH ?_
            case hy => (intro w hSw; (try dsimp only at hSw); go_simp; try with_reducible rfl)
            try simp only [Act.put, List.setIfInBounds_toArray, List.set_cons_zero, List.set_cons_succ]
            refine wpAnyH_take (i := 6) (oi := { dst := some 24, op := Go.Op.move (Go.Operand.tmp 23), type := 4, pos := "ref.go:37", after := #[{ on := 5, ground := Go.Ground.data }], guard := none }) (v := ?_) rfl (by kernel_rfl) (by kernel_rfl) (by kernel_rfl) (fun _ _ _ h => h) (Or.inl ⟨by rfl, ?hy⟩) hH ?_
            case hy => (intro w hSw; (try dsimp only at hSw); go_simp; try with_reducible rfl)
            try simp only [Act.put, List.setIfInBounds_toArray, List.set_cons_zero, List.set_cons_succ]
            refine wpAnyH_take (i := 7) (oi := { dst := some 25, op := Go.Op.move (Go.Operand.tmp 1), type := 36, pos := "ref.go:37", after := #[{ on := 6, ground := Go.Ground.guard }], guard := some (6, false) }) (v := ?_) rfl (by kernel_rfl) (by kernel_rfl) (by kernel_rfl) (fun _ _ _ h => h) (Or.inl ⟨by rfl, ?hy⟩) hH ?_
            case hy => (intro w hSw; (try dsimp only at hSw); go_simp; try with_reducible rfl)
            try simp only [Act.put, List.setIfInBounds_toArray, List.set_cons_zero, List.set_cons_succ]
            refine wpAnyH_take (i := 8) (oi := { dst := some 26, op := Go.Op.move (Go.Operand.tmp 5), type := 3, pos := "ref.go:37", after := #[{ on := 6, ground := Go.Ground.guard }], guard := some (6, false) }) (v := ?_) rfl (by kernel_rfl) (by kernel_rfl) (by kernel_rfl) (fun _ _ _ h => h) (Or.inl ⟨by rfl, ?hy⟩) hH ?_
            case hy => (intro w hSw; (try dsimp only at hSw); go_simp; try with_reducible rfl)
            try simp only [Act.put, List.setIfInBounds_toArray, List.set_cons_zero, List.set_cons_succ]
            refine wpAnyH_take (i := 10) (oi := { dst := some 28, op := Go.Op.move (Go.Operand.tmp 1), type := 36, pos := "ref.go:37", after := #[{ on := 6, ground := Go.Ground.guard }], guard := some (6, false) }) (v := ?_) rfl (by kernel_rfl) (by kernel_rfl) (by kernel_rfl) (fun _ _ _ h => h) (Or.inl ⟨by rfl, ?hy⟩) hH ?_
            case hy => (intro w hSw; (try dsimp only at hSw); go_simp; try with_reducible rfl)
            try simp only [Act.put, List.setIfInBounds_toArray, List.set_cons_zero, List.set_cons_succ]
            refine wpAnyH_take (i := 11) (oi := { dst := some 29, op := Go.Op.move (Go.Operand.tmp 5), type := 3, pos := "ref.go:37", after := #[{ on := 6, ground := Go.Ground.guard }], guard := some (6, false) }) (v := ?_) rfl (by kernel_rfl) (by kernel_rfl) (by kernel_rfl) (fun _ _ _ h => h) (Or.inl ⟨by rfl, ?hy⟩) hH ?_
            case hy => (intro w hSw; (try dsimp only at hSw); go_simp; try with_reducible rfl)
            try simp only [Act.put, List.setIfInBounds_toArray, List.set_cons_zero, List.set_cons_succ]
            refine wpAnyH_take (i := 12) (oi := { dst := some 30, op := Go.Op.indexAddr 36 (Go.Operand.tmp 28) (Go.Operand.tmp 29), type := 0, pos := "ref.go:37", after := #[{ on := 10, ground := Go.Ground.data }, { on := 11, ground := Go.Ground.data }, { on := 6, ground := Go.Ground.guard }], guard := some (6, false) }) (v := ?_) rfl (by kernel_rfl) (by kernel_rfl) (by kernel_rfl) (fun _ _ _ h => h) (Or.inl ⟨by rfl, ?hy⟩) hH ?_
            case hy => (intro w hSw; (try dsimp only at hSw); go_simp; try with_reducible rfl)
            try simp only [Act.put, List.setIfInBounds_toArray, List.set_cons_zero, List.set_cons_succ]
            refine wpAnyH_take (i := 13) (oi := { dst := some 31, op := Go.Op.load 28 (Go.Operand.tmp 30), type := 28, pos := "ref.go:37", after := #[{ on := 12, ground := Go.Ground.data }, { on := 6, ground := Go.Ground.guard }], guard := some (6, false) }) (v := ?_) rfl (by kernel_rfl) (by kernel_rfl) (by kernel_rfl) (fun _ _ _ h => h) (Or.inl ⟨by rfl, ?hy⟩) hH ?_
            case hy => (intro w hSw; (try dsimp only at hSw); go_simp; try with_reducible rfl)
            try simp only [Act.put, List.setIfInBounds_toArray, List.set_cons_zero, List.set_cons_succ]
            refine wpAnyH_ready (rs := [9]) (by kernel_rfl) (by simp) ?_
            refine (AllReadyH.cons (o := { dst := some 27, op := Go.Op.slice 36 (Go.Operand.tmp 25) none (some (Go.Operand.tmp 26)) none, type := 36, pos := "ref.go:37", after := #[{ on := 7, ground := Go.Ground.data }, { on := 8, ground := Go.Ground.data }, { on := 6, ground := Go.Ground.guard }], guard := some (6, false) }) rfl (fun K hK => ?_) AllReadyH.nil)
            refine step_slUpto (k := 2) (enc := encID) (xs := l.map nameB) (by kernel_rfl) (.tmp 25) (.tmp 26) rfl elemID sizeID rfl k rfl (HN.out.after (below_then hbw hbw.size hH)) (by rw [List.length_map]; omega) ?_
            intro v2 hv2
            try go_simp
            refine hK.out _ _ (hH) (fun hH2 => ?_)
            clear hK K hH
            have hH := hH2
            clear hH2
            try simp only [Act.put, List.setIfInBounds_toArray, List.set_cons_zero, List.set_cons_succ]
            refine wpAnyH_ready (rs := [14]) (by kernel_rfl) (by simp) ?_
            refine (AllReadyH.cons (o := { dst := some 32, op := Go.Op.call { callee := Go.Callee.value (Go.Operand.func 108), args := #[Go.Operand.tmp 27, Go.Operand.tmp 31], argTypes := #[36, 28] }, type := 3, pos := "ref.go:37", after := #[{ on := 9, ground := Go.Ground.data }, { on := 13, ground := Go.Ground.data }, { on := 6, ground := Go.Ground.chain }, { on := 6, ground := Go.Ground.guard }], guard := some (6, false) }) rfl (fun K hK => ?_) AllReadyH.nil)
            go_simp
            go_at_call 108
            refine (rat_any ((l.map nameB).take k) v2 nb _ hv2).mono ?_
            rw [HZ1.out]
            rintro e w5 ⟨rfl, hw5⟩
            try go_simp
            refine hK.out _ _ (below_ext hH hw5) (fun hH2 => ?_)
            clear hK K hH
            have hH := hH2
            clear hH2
            try simp only [Act.put, List.setIfInBounds_toArray, List.set_cons_zero, List.set_cons_succ]
            refine wpAnyH_take (i := 15) (oi := { dst := some 33, op := Go.Op.binOp Go.BinOp.geq 3 (Go.Operand.tmp 32) (Go.Operand.const (Go.Value.int Go.IntKind.i64 0)) 3, type := 4, pos := "ref.go:37", after := #[{ on := 14, ground := Go.Ground.data }, { on := 6, ground := Go.Ground.guard }], guard := some (6, false) }) (v := ?_) rfl (by kernel_rfl) (by kernel_rfl) (by kernel_rfl) (fun _ _ _ h => h) (Or.inl ⟨by rfl, ?hy⟩) hH ?_
            case hy => (intro w hSw; (try dsimp only at hSw); go_simp; try with_reducible rfl)
            try simp only [Act.put, List.setIfInBounds_toArray, List.set_cons_zero, List.set_cons_succ]
            refine wpAnyH_take (i := 16) (oi := { dst := some 34, op := Go.Op.pick (Go.Operand.tmp 24) (Go.Operand.const (Go.Value.bool true)) (Go.Operand.tmp 33), type := 4, pos := "ref.go:37", after := #[{ on := 6, ground := Go.Ground.data }, { on := 15, ground := Go.Ground.data }], guard := none }) (v := ?_) rfl (by kernel_rfl) (by kernel_rfl) (by kernel_rfl) (fun _ _ _ h => h) (Or.inl ⟨by rfl, ?hy⟩) hH ?_
            case hy => (intro w hSw; (try dsimp only at hSw); go_simp; try with_reducible rfl)
            try simp only [Act.put, List.setIfInBounds_toArray, List.set_cons_zero, List.set_cons_succ]
            refine wpAnyH_take (i := 17) (oi := { dst := some 35, op := Go.Op.move (Go.Operand.tmp 34), type := 4, pos := "ref.go:37", after := #[{ on := 16, ground := Go.Ground.data }, { on := 14, ground := Go.Ground.chain }], guard := none }) (v := ?_) rfl (by kernel_rfl) (by kernel_rfl) (by kernel_rfl) (fun _ _ _ h => h) (Or.inl ⟨by rfl, ?hy⟩) hH ?_
            case hy => (intro w hSw; (try dsimp only at hSw); go_simp; try with_reducible rfl)
            try simp only [Act.put, List.setIfInBounds_toArray, List.set_cons_zero, List.set_cons_succ]
            refine wpAnyH_take (i := 18) (oi := { dst := some 36, op := Go.Op.fieldAddr 67 (Go.Operand.tmp 6) 0, type := 0, pos := "ref.go:37", after := #[{ on := 17, ground := Go.Ground.guard }], guard := some (17, false) }) (v := ?_) rfl (by kernel_rfl) (by kernel_rfl) (by kernel_rfl) (fun _ _ _ h => h) (Or.inl ⟨by rfl, ?hy⟩) hH ?_
            case hy => (intro w hSw; (try dsimp only at hSw); go_simp; try with_reducible rfl)
            try simp only [Act.put, List.setIfInBounds_toArray, List.set_cons_zero, List.set_cons_succ]
            refine wpAnyH_take (i := 19) (oi := { dst := some 37, op := Go.Op.load 3 (Go.Operand.tmp 36), type := 3, pos := "ref.go:37", after := #[{ on := 18, ground := Go.Ground.data }, { on := 17, ground := Go.Ground.guard }], guard := some (17, false) }) (v := ?_) rfl (by kernel_rfl) (by kernel_rfl) (by kernel_rfl) (fun _ _ _ h => h) (Or.inl ⟨by rfl, ?hy⟩) hH ?_
            case hy => (intro w hSw; (try dsimp only at hSw); go_simp; try with_reducible rfl)
            try simp only [Act.put, List.setIfInBounds_toArray, List.set_cons_zero, List.set_cons_succ]
            refine wpAnyH_take (i := 20) (oi := { dst := some 38, op := Go.Op.binOp Go.BinOp.lss 3 (Go.Operand.tmp 37) (Go.Operand.const (Go.Value.int Go.IntKind.i64 1)) 3, type := 4, pos := "ref.go:37", after := #[{ on := 19, ground := Go.Ground.data }, { on := 17, ground := Go.Ground.guard }], guard := some (17, false) }) (v := ?_) rfl (by kernel_rfl) (by kernel_rfl) (by kernel_rfl) (fun _ _ _ h => h) (Or.inl ⟨by rfl, ?hy⟩) hH ?_
            case hy => (intro w hSw; (try dsimp only at hSw); go_simp; try with_reducible rfl)
            try simp only [Act.put, List.setIfInBounds_toArray, List.set_cons_zero, List.set_cons_succ]
            refine wpAnyH_take (i := 21) (oi := { dst := some 39, op := Go.Op.pick (Go.Operand.tmp 35) (Go.Operand.const (Go.Value.bool true)) (Go.Operand.tmp 38), type := 4, pos := "ref.go:37", after := #[{ on := 17, ground := Go.Ground.data }, { on := 20, ground := Go.Ground.data }], guard := none }) (v := ?_) rfl (by kernel_rfl) (by kernel_rfl) (by kernel_rfl) (fun _ _ _ h => h) (Or.inl ⟨by rfl, ?hy⟩) hH ?_
            case hy => (intro w hSw; (try dsimp only at hSw); go_simp; try with_reducible rfl)
            try simp only [Act.put, List.setIfInBounds_toArray, List.set_cons_zero, List.set_cons_succ]
            refine wpAnyH_done (by kernel_rfl) ?_ _
            have hbz := below_then hbw hbw.size hH
            have hB5 := hB.after hH
            clear hH r0 hw5 hv2 hd hd2 h1 h2 hq
            have c0 := hB5.cell 0
            have c2 := hB5.cell 2
            have c3 := hB5.cell 3
            by_cases h3 : b.par = ID.zero
            · have hq : ∀ W', (Op.equalIn 10000 28 (.agg #[.int .u64 b.par.a.1, .int .u64 b.par.b.1]) (.agg #[.int .u64 0, .int .u64 0])).run Try.prog W' = .ok true W' := fun W' => by have := run_equalIn_ID b.par ID.zero W'; rw [decide_eq_true h3] at this; exact this
              have HG := hide (HOK.out (okAt_root (by rw [HNB.out]; exact H0.out) (by rw [HNB.out, HZ1.out]; exact H1.out) H2.out h3))
              clear h3
              go_wp2
              go_roundw
              case rel => exact ⟨k + 1, by omega, by go_num, HG.out, hbz⟩
              case measure => simp [intOf]; omega
            · have hq : ∀ W', (Op.equalIn 10000 28 (.agg #[.int .u64 b.par.a.1, .int .u64 b.par.b.1]) (.agg #[.int .u64 0, .int .u64 0])).run Try.prog W' = .ok false W' := fun W' => by have := run_equalIn_ID b.par ID.zero W'; rw [decide_eq_false h3] at this; exact this
              have H3 := hide h3
              clear h3
              obtain ⟨z2, hz2⟩ : ∃ z2, atZ ((l.map nameB).take k) b.par = z2 := ⟨_, rfl⟩
              have HZ2 := hide hz2
              have hzr := atZ_range ((l.map nameB).take k) b.par
              rw [hz2, List.length_take, List.length_map] at hzr
              clear hz2
              have r0 := hB5.ext 0 rfl
              have r2 := hB5.ext 2 rfl
              have r3 := hB5.ext 3 rfl
              by_cases h4 : z2 < 0
              · have hd4 : decide (z2 < 0) = true := decide_eq_true h4
                have HE := hide (HBAD.out (okAt_lost H3.out (by rw [HZ2.out]; exact h4)))
                clear hzr
                go_wp2
                refine wp_region_held_drew (S := fun w' => Below w5.heap.size w5 w') (by kernel_rfl) (below_drew w5) (fun hH => ?_)
                refine wpAnyH_take (i := 0) (oi := { dst := some 44, op := Go.Op.move (Go.Operand.tmp 1), type := 36, pos := "ref.go:43", after := #[], guard := none }) (v := ?_) rfl (by kernel_rfl) (by kernel_rfl) (by kernel_rfl) (fun _ _ _ h => h) (Or.inl ⟨by rfl, ?hy⟩) hH ?_
                case hy => (intro w hSw; (try dsimp only at hSw); go_simp; try with_reducible rfl)
                try simp only [Act.put, List.setIfInBounds_toArray, List.set_cons_zero, List.set_cons_succ]
                refine wpAnyH_take (i := 1) (oi := { dst := some 45, op := Go.Op.move (Go.Operand.tmp 5), type := 3, pos := "ref.go:43", after := #[], guard := none }) (v := ?_) rfl (by kernel_rfl) (by kernel_rfl) (by kernel_rfl) (fun _ _ _ h => h) (Or.inl ⟨by rfl, ?hy⟩) hH ?_
                case hy => (intro w hSw; (try dsimp only at hSw); go_simp; try with_reducible rfl)
                try simp only [Act.put, List.setIfInBounds_toArray, List.set_cons_zero, List.set_cons_succ]
                refine wpAnyH_take (i := 3) (oi := { dst := some 47, op := Go.Op.fieldAddr 67 (Go.Operand.tmp 6) 2, type := 0, pos := "ref.go:43", after := #[], guard := none }) (v := ?_) rfl (by kernel_rfl) (by kernel_rfl) (by kernel_rfl) (fun _ _ _ h => h) (Or.inl ⟨by rfl, ?hy⟩) hH ?_
                case hy => (intro w hSw; (try dsimp only at hSw); go_simp; try with_reducible rfl)
                try simp only [Act.put, List.setIfInBounds_toArray, List.set_cons_zero, List.set_cons_succ]
                refine wpAnyH_take (i := 4) (oi := { dst := some 48, op := Go.Op.load 28 (Go.Operand.tmp 47), type := 28, pos := "ref.go:43", after := #[{ on := 3, ground := Go.Ground.data }], guard := none }) (v := ?_) rfl (by kernel_rfl) (by kernel_rfl) (by kernel_rfl) (fun _ _ _ h => h) (Or.inl ⟨by rfl, ?hy⟩) hH ?_
                case hy => (intro w hSw; (try dsimp only at hSw); go_simp; try with_reducible rfl)
                try simp only [Act.put, List.setIfInBounds_toArray, List.set_cons_zero, List.set_cons_succ]
                refine wpAnyH_ready (rs := [2]) (by kernel_rfl) (by simp) ?_
                refine (AllReadyH.cons (o := { dst := some 46, op := Go.Op.slice 36 (Go.Operand.tmp 44) none (some (Go.Operand.tmp 45)) none, type := 36, pos := "ref.go:43", after := #[{ on := 0, ground := Go.Ground.data }, { on := 1, ground := Go.Ground.data }], guard := none }) rfl (fun K hK => ?_) AllReadyH.nil)
                refine step_slUpto (k := 2) (enc := encID) (xs := l.map nameB) (by kernel_rfl) (.tmp 44) (.tmp 45) rfl elemID sizeID rfl k rfl (HN.out.after (below_then hbz hbz.size hH)) (by rw [List.length_map]; omega) ?_
                intro v3 hv3
                try go_simp
                refine hK.out _ _ (hH) (fun hH2 => ?_)
                clear hK K hH
                have hH := hH2
                clear hH2
                try simp only [Act.put, List.setIfInBounds_toArray, List.set_cons_zero, List.set_cons_succ]
                refine wpAnyH_ready (rs := [5]) (by kernel_rfl) (by simp) ?_
                refine (AllReadyH.cons (o := { dst := some 49, op := Go.Op.call { callee := Go.Callee.value (Go.Operand.func 108), args := #[Go.Operand.tmp 46, Go.Operand.tmp 48], argTypes := #[36, 28] }, type := 3, pos := "ref.go:43", after := #[{ on := 2, ground := Go.Ground.data }, { on := 4, ground := Go.Ground.data }], guard := none }) rfl (fun K hK => ?_) AllReadyH.nil)
                go_simp
                go_at_call 108
                refine (rat_any ((l.map nameB).take k) v3 b.par _ hv3).mono ?_
                rw [HZ2.out]
                rintro e w6 ⟨rfl, hw6⟩
                try go_simp
                refine hK.out _ _ (below_ext hH hw6) (fun hH2 => ?_)
                clear hK K hH
                have hH := hH2
                clear hH2
                try simp only [Act.put, List.setIfInBounds_toArray, List.set_cons_zero, List.set_cons_succ]
                refine wpAnyH_take (i := 6) (oi := { dst := some 7, op := Go.Op.assign (Go.Operand.tmp 49), type := 3, pos := "ref.go:43", after := #[{ on := 5, ground := Go.Ground.data }, { on := 5, ground := Go.Ground.chain }, { on := 0, ground := Go.Ground.phase }, { on := 1, ground := Go.Ground.phase }, { on := 2, ground := Go.Ground.phase }, { on := 3, ground := Go.Ground.phase }, { on := 4, ground := Go.Ground.phase }, { on := 5, ground := Go.Ground.phase }], guard := none }) (v := ?_) rfl (by kernel_rfl) (by kernel_rfl) (by kernel_rfl) (fun _ _ _ h => h) (Or.inl ⟨by rfl, ?hy⟩) hH ?_
                case hy => (intro w hSw; (try dsimp only at hSw); go_simp; try with_reducible rfl)
                try simp only [Act.put, List.setIfInBounds_toArray, List.set_cons_zero, List.set_cons_succ]
                refine wpAnyH_done (by kernel_rfl) ?_ _
                have hby := below_then hbz hbz.size hH
                clear hH r0 r2 r3 hw6 hv3 c0 c2 c3 hq
                go_wp2
                refine wp_region_held_drew (S := fun w' => Below w6.heap.size w6 w') (by kernel_rfl) (below_drew w6) (fun hH => ?_)
                refine wpAnyH_take (i := 0) (oi := { dst := some 50, op := Go.Op.move (Go.Operand.tmp 7), type := 3, pos := "ref.go:44", after := #[], guard := none }) (v := ?_) rfl (by kernel_rfl) (by kernel_rfl) (by kernel_rfl) (fun _ _ _ h => h) (Or.inl ⟨by rfl, ?hy⟩) hH ?_
                case hy => (intro w hSw; (try dsimp only at hSw); go_simp; try with_reducible rfl)
                try simp only [Act.put, List.setIfInBounds_toArray, List.set_cons_zero, List.set_cons_succ]
                refine wpAnyH_take (i := 1) (oi := { dst := some 51, op := Go.Op.binOp Go.BinOp.lss 3 (Go.Operand.tmp 50) (Go.Operand.const (Go.Value.int Go.IntKind.i64 0)) 3, type := 4, pos := "ref.go:44", after := #[{ on := 0, ground := Go.Ground.data }], guard := none }) (v := ?_) rfl (by kernel_rfl) (by kernel_rfl) (by kernel_rfl) (fun _ _ _ h => h) (Or.inl ⟨by rfl, ?hy⟩) hH ?_
                case hy => (intro w hSw; (try dsimp only at hSw); go_simp; try with_reducible rfl)
                try simp only [Act.put, List.setIfInBounds_toArray, List.set_cons_zero, List.set_cons_succ]
                refine wpAnyH_take (i := 2) (oi := { dst := some 52, op := Go.Op.move (Go.Operand.tmp 51), type := 4, pos := "ref.go:44", after := #[{ on := 1, ground := Go.Ground.data }], guard := none }) (v := ?_) rfl (by kernel_rfl) (by kernel_rfl) (by kernel_rfl) (fun _ _ _ h => h) (Or.inl ⟨by rfl, ?hy⟩) hH ?_
                case hy => (intro w hSw; (try dsimp only at hSw); go_simp; try with_reducible rfl)
                try simp only [Act.put, List.setIfInBounds_toArray, List.set_cons_zero, List.set_cons_succ]
                refine wpAnyH_take (i := 3) (oi := { dst := some 53, op := Go.Op.move (Go.Operand.tmp 0), type := 26, pos := "ref.go:44", after := #[{ on := 2, ground := Go.Ground.guard }], guard := some (2, false) }) (v := undef) rfl (by kernel_rfl) (by kernel_rfl) (by kernel_rfl) (fun _ _ _ h => h) (Or.inr ⟨by rfl, rfl⟩) hH ?_
                try simp only [Act.put, List.setIfInBounds_toArray, List.set_cons_zero, List.set_cons_succ]
                refine wpAnyH_take (i := 4) (oi := { dst := some 54, op := Go.Op.move (Go.Operand.tmp 7), type := 3, pos := "ref.go:44", after := #[{ on := 2, ground := Go.Ground.guard }], guard := some (2, false) }) (v := undef) rfl (by kernel_rfl) (by kernel_rfl) (by kernel_rfl) (fun _ _ _ h => h) (Or.inr ⟨by rfl, rfl⟩) hH ?_
                try simp only [Act.put, List.setIfInBounds_toArray, List.set_cons_zero, List.set_cons_succ]
                refine wpAnyH_take (i := 5) (oi := { dst := some 55, op := Go.Op.indexAddr 26 (Go.Operand.tmp 53) (Go.Operand.tmp 54), type := 0, pos := "ref.go:44", after := #[{ on := 3, ground := Go.Ground.data }, { on := 4, ground := Go.Ground.data }, { on := 2, ground := Go.Ground.guard }], guard := some (2, false) }) (v := undef) rfl (by kernel_rfl) (by kernel_rfl) (by kernel_rfl) (fun _ _ _ h => h) (Or.inr ⟨by rfl, rfl⟩) hH ?_
                try simp only [Act.put, List.setIfInBounds_toArray, List.set_cons_zero, List.set_cons_succ]
                refine wpAnyH_take (i := 6) (oi := { dst := some 56, op := Go.Op.fieldAddr 67 (Go.Operand.tmp 55) 0, type := 0, pos := "ref.go:44", after := #[{ on := 5, ground := Go.Ground.data }, { on := 2, ground := Go.Ground.guard }], guard := some (2, false) }) (v := undef) rfl (by kernel_rfl) (by kernel_rfl) (by kernel_rfl) (fun _ _ _ h => h) (Or.inr ⟨by rfl, rfl⟩) hH ?_
                try simp only [Act.put, List.setIfInBounds_toArray, List.set_cons_zero, List.set_cons_succ]
                refine wpAnyH_take (i := 7) (oi := { dst := some 57, op := Go.Op.load 3 (Go.Operand.tmp 56), type := 3, pos := "ref.go:44", after := #[{ on := 6, ground := Go.Ground.data }, { on := 2, ground := Go.Ground.guard }], guard := some (2, false) }) (v := undef) rfl (by kernel_rfl) (by kernel_rfl) (by kernel_rfl) (fun _ _ _ h => h) (Or.inr ⟨by rfl, rfl⟩) hH ?_
                try simp only [Act.put, List.setIfInBounds_toArray, List.set_cons_zero, List.set_cons_succ]
                refine wpAnyH_take (i := 8) (oi := { dst := some 58, op := Go.Op.fieldAddr 67 (Go.Operand.tmp 6) 0, type := 0, pos := "ref.go:44", after := #[{ on := 2, ground := Go.Ground.guard }], guard := some (2, false) }) (v := undef) rfl (by kernel_rfl) (by kernel_rfl) (by kernel_rfl) (fun _ _ _ h => h) (Or.inr ⟨by rfl, rfl⟩) hH ?_
                try simp only [Act.put, List.setIfInBounds_toArray, List.set_cons_zero, List.set_cons_succ]
                refine wpAnyH_take (i := 9) (oi := { dst := some 59, op := Go.Op.load 3 (Go.Operand.tmp 58), type := 3, pos := "ref.go:44", after := #[{ on := 8, ground := Go.Ground.data }, { on := 2, ground := Go.Ground.guard }], guard := some (2, false) }) (v := undef) rfl (by kernel_rfl) (by kernel_rfl) (by kernel_rfl) (fun _ _ _ h => h) (Or.inr ⟨by rfl, rfl⟩) hH ?_
                try simp only [Act.put, List.setIfInBounds_toArray, List.set_cons_zero, List.set_cons_succ]
                refine wpAnyH_take (i := 10) (oi := { dst := some 60, op := Go.Op.binOp Go.BinOp.geq 3 (Go.Operand.tmp 57) (Go.Operand.tmp 59) 3, type := 4, pos := "ref.go:44", after := #[{ on := 7, ground := Go.Ground.data }, { on := 9, ground := Go.Ground.data }, { on := 2, ground := Go.Ground.guard }], guard := some (2, false) }) (v := undef) rfl (by kernel_rfl) (by kernel_rfl) (by kernel_rfl) (fun _ _ _ h => h) (Or.inr ⟨by rfl, rfl⟩) hH ?_
                try simp only [Act.put, List.setIfInBounds_toArray, List.set_cons_zero, List.set_cons_succ]
                refine wpAnyH_take (i := 11) (oi := { dst := some 61, op := Go.Op.pick (Go.Operand.tmp 52) (Go.Operand.const (Go.Value.bool true)) (Go.Operand.tmp 60), type := 4, pos := "ref.go:44", after := #[{ on := 2, ground := Go.Ground.data }, { on := 10, ground := Go.Ground.data }], guard := none }) (v := ?_) rfl (by kernel_rfl) (by kernel_rfl) (by kernel_rfl) (fun _ _ _ h => h) (Or.inl ⟨by rfl, ?hy⟩) hH ?_
                case hy => (intro w hSw; (try dsimp only at hSw); go_simp; try with_reducible rfl)
                try simp only [Act.put, List.setIfInBounds_toArray, List.set_cons_zero, List.set_cons_succ]
                refine wpAnyH_done (by kernel_rfl) ?_ _
                have hbx := below_then hby hby.size hH
                clear hH
                go_wp2
                go_ret
                exact ⟨by rw [HE.out]; rfl, hbx⟩
              · obtain ⟨j, rfl⟩ : ∃ j : Nat, z2 = j := Int.eq_ofNat_of_zero_le (by omega)
                have hd4 : decide ((j : Int) < 0) = false := decide_eq_false h4
                obtain ⟨y, hy⟩ : ∃ y, l[j]? = some y := ⟨_, List.getElem?_eq_getElem (by omega)⟩
                have i1 : (0 : Int) ≤ (j : Int) := by omega
                have i2 : (j : Int) < (l.length : Int) := by omega
                have HY := hide hy
                have ye : ∀ w', Below w5.heap.size w5 w' → w'.cell? ⟨bb, off + j * 5, none⟩ = some (.int .i64 y.slot.1) := fun w' h => ((below_then hbz hbz.size h).cell (p := ⟨bb, _, none⟩) HBL.out).trans (HC.out j y HY.out 0 _ rfl)
                clear hy hzr
                by_cases h5 : b.slot.1 ≤ y.slot.1
                · have hd5 : decide (y.slot.1 ≥ b.slot.1) = true := decide_eq_true h5
                  have HE := hide (HBAD.out (okAt_late H3.out HZ2.out HY.out h5))
                  go_wp2
                  refine wp_region_held_drew (S := fun w' => Below w5.heap.size w5 w') (by kernel_rfl) (below_drew w5) (fun hH => ?_)
                  refine wpAnyH_take (i := 0) (oi := { dst := some 44, op := Go.Op.move (Go.Operand.tmp 1), type := 36, pos := "ref.go:43", after := #[], guard := none }) (v := ?_) rfl (by kernel_rfl) (by kernel_rfl) (by kernel_rfl) (fun _ _ _ h => h) (Or.inl ⟨by rfl, ?hy⟩) hH ?_
                  case hy => (intro w hSw; (try dsimp only at hSw); go_simp; try with_reducible rfl)
                  try simp only [Act.put, List.setIfInBounds_toArray, List.set_cons_zero, List.set_cons_succ]
                  refine wpAnyH_take (i := 1) (oi := { dst := some 45, op := Go.Op.move (Go.Operand.tmp 5), type := 3, pos := "ref.go:43", after := #[], guard := none }) (v := ?_) rfl (by kernel_rfl) (by kernel_rfl) (by kernel_rfl) (fun _ _ _ h => h) (Or.inl ⟨by rfl, ?hy⟩) hH ?_
                  case hy => (intro w hSw; (try dsimp only at hSw); go_simp; try with_reducible rfl)
                  try simp only [Act.put, List.setIfInBounds_toArray, List.set_cons_zero, List.set_cons_succ]
                  refine wpAnyH_take (i := 3) (oi := { dst := some 47, op := Go.Op.fieldAddr 67 (Go.Operand.tmp 6) 2, type := 0, pos := "ref.go:43", after := #[], guard := none }) (v := ?_) rfl (by kernel_rfl) (by kernel_rfl) (by kernel_rfl) (fun _ _ _ h => h) (Or.inl ⟨by rfl, ?hy⟩) hH ?_
                  case hy => (intro w hSw; (try dsimp only at hSw); go_simp; try with_reducible rfl)
                  try simp only [Act.put, List.setIfInBounds_toArray, List.set_cons_zero, List.set_cons_succ]
                  refine wpAnyH_take (i := 4) (oi := { dst := some 48, op := Go.Op.load 28 (Go.Operand.tmp 47), type := 28, pos := "ref.go:43", after := #[{ on := 3, ground := Go.Ground.data }], guard := none }) (v := ?_) rfl (by kernel_rfl) (by kernel_rfl) (by kernel_rfl) (fun _ _ _ h => h) (Or.inl ⟨by rfl, ?hy⟩) hH ?_
                  case hy => (intro w hSw; (try dsimp only at hSw); go_simp; try with_reducible rfl)
                  try simp only [Act.put, List.setIfInBounds_toArray, List.set_cons_zero, List.set_cons_succ]
                  refine wpAnyH_ready (rs := [2]) (by kernel_rfl) (by simp) ?_
                  refine (AllReadyH.cons (o := { dst := some 46, op := Go.Op.slice 36 (Go.Operand.tmp 44) none (some (Go.Operand.tmp 45)) none, type := 36, pos := "ref.go:43", after := #[{ on := 0, ground := Go.Ground.data }, { on := 1, ground := Go.Ground.data }], guard := none }) rfl (fun K hK => ?_) AllReadyH.nil)
                  refine step_slUpto (k := 2) (enc := encID) (xs := l.map nameB) (by kernel_rfl) (.tmp 44) (.tmp 45) rfl elemID sizeID rfl k rfl (HN.out.after (below_then hbz hbz.size hH)) (by rw [List.length_map]; omega) ?_
                  intro v3 hv3
                  try go_simp
                  refine hK.out _ _ (hH) (fun hH2 => ?_)
                  clear hK K hH
                  have hH := hH2
                  clear hH2
                  try simp only [Act.put, List.setIfInBounds_toArray, List.set_cons_zero, List.set_cons_succ]
                  refine wpAnyH_ready (rs := [5]) (by kernel_rfl) (by simp) ?_
                  refine (AllReadyH.cons (o := { dst := some 49, op := Go.Op.call { callee := Go.Callee.value (Go.Operand.func 108), args := #[Go.Operand.tmp 46, Go.Operand.tmp 48], argTypes := #[36, 28] }, type := 3, pos := "ref.go:43", after := #[{ on := 2, ground := Go.Ground.data }, { on := 4, ground := Go.Ground.data }], guard := none }) rfl (fun K hK => ?_) AllReadyH.nil)
                  go_simp
                  go_at_call 108
                  refine (rat_any ((l.map nameB).take k) v3 b.par _ hv3).mono ?_
                  rw [HZ2.out]
                  rintro e w6 ⟨rfl, hw6⟩
                  try go_simp
                  refine hK.out _ _ (below_ext hH hw6) (fun hH2 => ?_)
                  clear hK K hH
                  have hH := hH2
                  clear hH2
                  try simp only [Act.put, List.setIfInBounds_toArray, List.set_cons_zero, List.set_cons_succ]
                  refine wpAnyH_take (i := 6) (oi := { dst := some 7, op := Go.Op.assign (Go.Operand.tmp 49), type := 3, pos := "ref.go:43", after := #[{ on := 5, ground := Go.Ground.data }, { on := 5, ground := Go.Ground.chain }, { on := 0, ground := Go.Ground.phase }, { on := 1, ground := Go.Ground.phase }, { on := 2, ground := Go.Ground.phase }, { on := 3, ground := Go.Ground.phase }, { on := 4, ground := Go.Ground.phase }, { on := 5, ground := Go.Ground.phase }], guard := none }) (v := ?_) rfl (by kernel_rfl) (by kernel_rfl) (by kernel_rfl) (fun _ _ _ h => h) (Or.inl ⟨by rfl, ?hy⟩) hH ?_
                  case hy => (intro w hSw; (try dsimp only at hSw); go_simp; try with_reducible rfl)
                  try simp only [Act.put, List.setIfInBounds_toArray, List.set_cons_zero, List.set_cons_succ]
                  refine wpAnyH_done (by kernel_rfl) ?_ _
                  have hby := below_then hbz hbz.size hH
                  have r0' := (hB5.after hH).ext 0 rfl
                  have ye' : ∀ w', Below w6.heap.size w6 w' → w'.cell? ⟨bb, off + j * 5, none⟩ = some (.int .i64 y.slot.1) := fun w' h => ye w' (below_ext hH h)
                  clear hH r0 r2 r3 hw6 hv3 c0 c2 c3 hq ye
                  go_wp2
                  refine wp_region_held_drew (S := fun w' => Below w6.heap.size w6 w') (by kernel_rfl) (below_drew w6) (fun hH => ?_)
                  refine wpAnyH_take (i := 0) (oi := { dst := some 50, op := Go.Op.move (Go.Operand.tmp 7), type := 3, pos := "ref.go:44", after := #[], guard := none }) (v := ?_) rfl (by kernel_rfl) (by kernel_rfl) (by kernel_rfl) (fun _ _ _ h => h) (Or.inl ⟨by rfl, ?hy⟩) hH ?_
                  case hy => (intro w hSw; (try dsimp only at hSw); go_simp; try with_reducible rfl)
                  try simp only [Act.put, List.setIfInBounds_toArray, List.set_cons_zero, List.set_cons_succ]
                  refine wpAnyH_take (i := 1) (oi := { dst := some 51, op := Go.Op.binOp Go.BinOp.lss 3 (Go.Operand.tmp 50) (Go.Operand.const (Go.Value.int Go.IntKind.i64 0)) 3, type := 4, pos := "ref.go:44", after := #[{ on := 0, ground := Go.Ground.data }], guard := none }) (v := ?_) rfl (by kernel_rfl) (by kernel_rfl) (by kernel_rfl) (fun _ _ _ h => h) (Or.inl ⟨by rfl, ?hy⟩) hH ?_
                  case hy => (intro w hSw; (try dsimp only at hSw); go_simp; try with_reducible rfl)
                  try simp only [Act.put, List.setIfInBounds_toArray, List.set_cons_zero, List.set_cons_succ]
                  refine wpAnyH_take (i := 2) (oi := { dst := some 52, op := Go.Op.move (Go.Operand.tmp 51), type := 4, pos := "ref.go:44", after := #[{ on := 1, ground := Go.Ground.data }], guard := none }) (v := ?_) rfl (by kernel_rfl) (by kernel_rfl) (by kernel_rfl) (fun _ _ _ h => h) (Or.inl ⟨by rfl, ?hy⟩) hH ?_
                  case hy => (intro w hSw; (try dsimp only at hSw); go_simp; try with_reducible rfl)
                  try simp only [Act.put, List.setIfInBounds_toArray, List.set_cons_zero, List.set_cons_succ]
                  refine wpAnyH_take (i := 3) (oi := { dst := some 53, op := Go.Op.move (Go.Operand.tmp 0), type := 26, pos := "ref.go:44", after := #[{ on := 2, ground := Go.Ground.guard }], guard := some (2, false) }) (v := ?_) rfl (by kernel_rfl) (by kernel_rfl) (by kernel_rfl) (fun _ _ _ h => h) (Or.inl ⟨by rfl, ?hy⟩) hH ?_
                  case hy => (intro w hSw; (try dsimp only at hSw); go_simp; try with_reducible rfl)
                  try simp only [Act.put, List.setIfInBounds_toArray, List.set_cons_zero, List.set_cons_succ]
                  refine wpAnyH_take (i := 4) (oi := { dst := some 54, op := Go.Op.move (Go.Operand.tmp 7), type := 3, pos := "ref.go:44", after := #[{ on := 2, ground := Go.Ground.guard }], guard := some (2, false) }) (v := ?_) rfl (by kernel_rfl) (by kernel_rfl) (by kernel_rfl) (fun _ _ _ h => h) (Or.inl ⟨by rfl, ?hy⟩) hH ?_
                  case hy => (intro w hSw; (try dsimp only at hSw); go_simp; try with_reducible rfl)
                  try simp only [Act.put, List.setIfInBounds_toArray, List.set_cons_zero, List.set_cons_succ]
                  refine wpAnyH_take (i := 5) (oi := { dst := some 55, op := Go.Op.indexAddr 26 (Go.Operand.tmp 53) (Go.Operand.tmp 54), type := 0, pos := "ref.go:44", after := #[{ on := 3, ground := Go.Ground.data }, { on := 4, ground := Go.Ground.data }, { on := 2, ground := Go.Ground.guard }], guard := some (2, false) }) (v := ?_) rfl (by kernel_rfl) (by kernel_rfl) (by kernel_rfl) (fun _ _ _ h => h) (Or.inl ⟨by rfl, ?hy⟩) hH ?_
                  case hy => (intro w hSw; (try dsimp only at hSw); go_simp; try with_reducible rfl)
                  try simp only [Act.put, List.setIfInBounds_toArray, List.set_cons_zero, List.set_cons_succ]
                  refine wpAnyH_take (i := 6) (oi := { dst := some 56, op := Go.Op.fieldAddr 67 (Go.Operand.tmp 55) 0, type := 0, pos := "ref.go:44", after := #[{ on := 5, ground := Go.Ground.data }, { on := 2, ground := Go.Ground.guard }], guard := some (2, false) }) (v := ?_) rfl (by kernel_rfl) (by kernel_rfl) (by kernel_rfl) (fun _ _ _ h => h) (Or.inl ⟨by rfl, ?hy⟩) hH ?_
                  case hy => (intro w hSw; (try dsimp only at hSw); go_simp; try with_reducible rfl)
                  try simp only [Act.put, List.setIfInBounds_toArray, List.set_cons_zero, List.set_cons_succ]
                  refine wpAnyH_take (i := 7) (oi := { dst := some 57, op := Go.Op.load 3 (Go.Operand.tmp 56), type := 3, pos := "ref.go:44", after := #[{ on := 6, ground := Go.Ground.data }, { on := 2, ground := Go.Ground.guard }], guard := some (2, false) }) (v := ?_) rfl (by kernel_rfl) (by kernel_rfl) (by kernel_rfl) (fun _ _ _ h => h) (Or.inl ⟨by rfl, ?hy⟩) hH ?_
                  case hy => (intro w hSw; (try dsimp only at hSw); go_simp; try with_reducible rfl)
                  try simp only [Act.put, List.setIfInBounds_toArray, List.set_cons_zero, List.set_cons_succ]
                  refine wpAnyH_take (i := 8) (oi := { dst := some 58, op := Go.Op.fieldAddr 67 (Go.Operand.tmp 6) 0, type := 0, pos := "ref.go:44", after := #[{ on := 2, ground := Go.Ground.guard }], guard := some (2, false) }) (v := ?_) rfl (by kernel_rfl) (by kernel_rfl) (by kernel_rfl) (fun _ _ _ h => h) (Or.inl ⟨by rfl, ?hy⟩) hH ?_
                  case hy => (intro w hSw; (try dsimp only at hSw); go_simp; try with_reducible rfl)
                  try simp only [Act.put, List.setIfInBounds_toArray, List.set_cons_zero, List.set_cons_succ]
                  refine wpAnyH_take (i := 9) (oi := { dst := some 59, op := Go.Op.load 3 (Go.Operand.tmp 58), type := 3, pos := "ref.go:44", after := #[{ on := 8, ground := Go.Ground.data }, { on := 2, ground := Go.Ground.guard }], guard := some (2, false) }) (v := ?_) rfl (by kernel_rfl) (by kernel_rfl) (by kernel_rfl) (fun _ _ _ h => h) (Or.inl ⟨by rfl, ?hy⟩) hH ?_
                  case hy => (intro w hSw; (try dsimp only at hSw); go_simp; try with_reducible rfl)
                  try simp only [Act.put, List.setIfInBounds_toArray, List.set_cons_zero, List.set_cons_succ]
                  refine wpAnyH_take (i := 10) (oi := { dst := some 60, op := Go.Op.binOp Go.BinOp.geq 3 (Go.Operand.tmp 57) (Go.Operand.tmp 59) 3, type := 4, pos := "ref.go:44", after := #[{ on := 7, ground := Go.Ground.data }, { on := 9, ground := Go.Ground.data }, { on := 2, ground := Go.Ground.guard }], guard := some (2, false) }) (v := ?_) rfl (by kernel_rfl) (by kernel_rfl) (by kernel_rfl) (fun _ _ _ h => h) (Or.inl ⟨by rfl, ?hy⟩) hH ?_
                  case hy => (intro w hSw; (try dsimp only at hSw); go_simp; try with_reducible rfl)
                  try simp only [Act.put, List.setIfInBounds_toArray, List.set_cons_zero, List.set_cons_succ]
                  refine wpAnyH_take (i := 11) (oi := { dst := some 61, op := Go.Op.pick (Go.Operand.tmp 52) (Go.Operand.const (Go.Value.bool true)) (Go.Operand.tmp 60), type := 4, pos := "ref.go:44", after := #[{ on := 2, ground := Go.Ground.data }, { on := 10, ground := Go.Ground.data }], guard := none }) (v := ?_) rfl (by kernel_rfl) (by kernel_rfl) (by kernel_rfl) (fun _ _ _ h => h) (Or.inl ⟨by rfl, ?hy⟩) hH ?_
                  case hy => (intro w hSw; (try dsimp only at hSw); go_simp; try with_reducible rfl)
                  try simp only [Act.put, List.setIfInBounds_toArray, List.set_cons_zero, List.set_cons_succ]
                  refine wpAnyH_done (by kernel_rfl) ?_ _
                  have hbx := below_then hby hby.size hH
                  clear hH
                  go_wp2
                  go_ret
                  exact ⟨by rw [HE.out]; rfl, hbx⟩
                · have hd5 : decide (y.slot.1 ≥ b.slot.1) = false := decide_eq_false h5
                  have HG := hide (HOK.out (okAt_good (by rw [HNB.out]; exact H0.out) (by rw [HNB.out, HZ1.out]; exact H1.out) H2.out HZ2.out HY.out (by omega)))
                  go_wp2
                  refine wp_region_held_drew (S := fun w' => Below w5.heap.size w5 w') (by kernel_rfl) (below_drew w5) (fun hH => ?_)
                  refine wpAnyH_take (i := 0) (oi := { dst := some 44, op := Go.Op.move (Go.Operand.tmp 1), type := 36, pos := "ref.go:43", after := #[], guard := none }) (v := ?_) rfl (by kernel_rfl) (by kernel_rfl) (by kernel_rfl) (fun _ _ _ h => h) (Or.inl ⟨by rfl, ?hy⟩) hH ?_
                  case hy => (intro w hSw; (try dsimp only at hSw); go_simp; try with_reducible rfl)
                  try simp only [Act.put, List.setIfInBounds_toArray, List.set_cons_zero, List.set_cons_succ]
                  refine wpAnyH_take (i := 1) (oi := { dst := some 45, op := Go.Op.move (Go.Operand.tmp 5), type := 3, pos := "ref.go:43", after := #[], guard := none }) (v := ?_) rfl (by kernel_rfl) (by kernel_rfl) (by kernel_rfl) (fun _ _ _ h => h) (Or.inl ⟨by rfl, ?hy⟩) hH ?_
                  case hy => (intro w hSw; (try dsimp only at hSw); go_simp; try with_reducible rfl)
                  try simp only [Act.put, List.setIfInBounds_toArray, List.set_cons_zero, List.set_cons_succ]
                  refine wpAnyH_take (i := 3) (oi := { dst := some 47, op := Go.Op.fieldAddr 67 (Go.Operand.tmp 6) 2, type := 0, pos := "ref.go:43", after := #[], guard := none }) (v := ?_) rfl (by kernel_rfl) (by kernel_rfl) (by kernel_rfl) (fun _ _ _ h => h) (Or.inl ⟨by rfl, ?hy⟩) hH ?_
                  case hy => (intro w hSw; (try dsimp only at hSw); go_simp; try with_reducible rfl)
                  try simp only [Act.put, List.setIfInBounds_toArray, List.set_cons_zero, List.set_cons_succ]
                  refine wpAnyH_take (i := 4) (oi := { dst := some 48, op := Go.Op.load 28 (Go.Operand.tmp 47), type := 28, pos := "ref.go:43", after := #[{ on := 3, ground := Go.Ground.data }], guard := none }) (v := ?_) rfl (by kernel_rfl) (by kernel_rfl) (by kernel_rfl) (fun _ _ _ h => h) (Or.inl ⟨by rfl, ?hy⟩) hH ?_
                  case hy => (intro w hSw; (try dsimp only at hSw); go_simp; try with_reducible rfl)
                  try simp only [Act.put, List.setIfInBounds_toArray, List.set_cons_zero, List.set_cons_succ]
                  refine wpAnyH_ready (rs := [2]) (by kernel_rfl) (by simp) ?_
                  refine (AllReadyH.cons (o := { dst := some 46, op := Go.Op.slice 36 (Go.Operand.tmp 44) none (some (Go.Operand.tmp 45)) none, type := 36, pos := "ref.go:43", after := #[{ on := 0, ground := Go.Ground.data }, { on := 1, ground := Go.Ground.data }], guard := none }) rfl (fun K hK => ?_) AllReadyH.nil)
                  refine step_slUpto (k := 2) (enc := encID) (xs := l.map nameB) (by kernel_rfl) (.tmp 44) (.tmp 45) rfl elemID sizeID rfl k rfl (HN.out.after (below_then hbz hbz.size hH)) (by rw [List.length_map]; omega) ?_
                  intro v3 hv3
                  try go_simp
                  refine hK.out _ _ (hH) (fun hH2 => ?_)
                  clear hK K hH
                  have hH := hH2
                  clear hH2
                  try simp only [Act.put, List.setIfInBounds_toArray, List.set_cons_zero, List.set_cons_succ]
                  refine wpAnyH_ready (rs := [5]) (by kernel_rfl) (by simp) ?_
                  refine (AllReadyH.cons (o := { dst := some 49, op := Go.Op.call { callee := Go.Callee.value (Go.Operand.func 108), args := #[Go.Operand.tmp 46, Go.Operand.tmp 48], argTypes := #[36, 28] }, type := 3, pos := "ref.go:43", after := #[{ on := 2, ground := Go.Ground.data }, { on := 4, ground := Go.Ground.data }], guard := none }) rfl (fun K hK => ?_) AllReadyH.nil)
                  go_simp
                  go_at_call 108
                  refine (rat_any ((l.map nameB).take k) v3 b.par _ hv3).mono ?_
                  rw [HZ2.out]
                  rintro e w6 ⟨rfl, hw6⟩
                  try go_simp
                  refine hK.out _ _ (below_ext hH hw6) (fun hH2 => ?_)
                  clear hK K hH
                  have hH := hH2
                  clear hH2
                  try simp only [Act.put, List.setIfInBounds_toArray, List.set_cons_zero, List.set_cons_succ]
                  refine wpAnyH_take (i := 6) (oi := { dst := some 7, op := Go.Op.assign (Go.Operand.tmp 49), type := 3, pos := "ref.go:43", after := #[{ on := 5, ground := Go.Ground.data }, { on := 5, ground := Go.Ground.chain }, { on := 0, ground := Go.Ground.phase }, { on := 1, ground := Go.Ground.phase }, { on := 2, ground := Go.Ground.phase }, { on := 3, ground := Go.Ground.phase }, { on := 4, ground := Go.Ground.phase }, { on := 5, ground := Go.Ground.phase }], guard := none }) (v := ?_) rfl (by kernel_rfl) (by kernel_rfl) (by kernel_rfl) (fun _ _ _ h => h) (Or.inl ⟨by rfl, ?hy⟩) hH ?_
                  case hy => (intro w hSw; (try dsimp only at hSw); go_simp; try with_reducible rfl)
                  try simp only [Act.put, List.setIfInBounds_toArray, List.set_cons_zero, List.set_cons_succ]
                  refine wpAnyH_done (by kernel_rfl) ?_ _
                  have hby := below_then hbz hbz.size hH
                  have r0' := (hB5.after hH).ext 0 rfl
                  have ye' : ∀ w', Below w6.heap.size w6 w' → w'.cell? ⟨bb, off + j * 5, none⟩ = some (.int .i64 y.slot.1) := fun w' h => ye w' (below_ext hH h)
                  clear hH r0 r2 r3 hw6 hv3 c0 c2 c3 hq ye
                  go_wp2
                  refine wp_region_held_drew (S := fun w' => Below w6.heap.size w6 w') (by kernel_rfl) (below_drew w6) (fun hH => ?_)
                  refine wpAnyH_take (i := 0) (oi := { dst := some 50, op := Go.Op.move (Go.Operand.tmp 7), type := 3, pos := "ref.go:44", after := #[], guard := none }) (v := ?_) rfl (by kernel_rfl) (by kernel_rfl) (by kernel_rfl) (fun _ _ _ h => h) (Or.inl ⟨by rfl, ?hy⟩) hH ?_
                  case hy => (intro w hSw; (try dsimp only at hSw); go_simp; try with_reducible rfl)
                  try simp only [Act.put, List.setIfInBounds_toArray, List.set_cons_zero, List.set_cons_succ]
                  refine wpAnyH_take (i := 1) (oi := { dst := some 51, op := Go.Op.binOp Go.BinOp.lss 3 (Go.Operand.tmp 50) (Go.Operand.const (Go.Value.int Go.IntKind.i64 0)) 3, type := 4, pos := "ref.go:44", after := #[{ on := 0, ground := Go.Ground.data }], guard := none }) (v := ?_) rfl (by kernel_rfl) (by kernel_rfl) (by kernel_rfl) (fun _ _ _ h => h) (Or.inl ⟨by rfl, ?hy⟩) hH ?_
                  case hy => (intro w hSw; (try dsimp only at hSw); go_simp; try with_reducible rfl)
                  try simp only [Act.put, List.setIfInBounds_toArray, List.set_cons_zero, List.set_cons_succ]
                  refine wpAnyH_take (i := 2) (oi := { dst := some 52, op := Go.Op.move (Go.Operand.tmp 51), type := 4, pos := "ref.go:44", after := #[{ on := 1, ground := Go.Ground.data }], guard := none }) (v := ?_) rfl (by kernel_rfl) (by kernel_rfl) (by kernel_rfl) (fun _ _ _ h => h) (Or.inl ⟨by rfl, ?hy⟩) hH ?_
                  case hy => (intro w hSw; (try dsimp only at hSw); go_simp; try with_reducible rfl)
                  try simp only [Act.put, List.setIfInBounds_toArray, List.set_cons_zero, List.set_cons_succ]
                  refine wpAnyH_take (i := 3) (oi := { dst := some 53, op := Go.Op.move (Go.Operand.tmp 0), type := 26, pos := "ref.go:44", after := #[{ on := 2, ground := Go.Ground.guard }], guard := some (2, false) }) (v := ?_) rfl (by kernel_rfl) (by kernel_rfl) (by kernel_rfl) (fun _ _ _ h => h) (Or.inl ⟨by rfl, ?hy⟩) hH ?_
                  case hy => (intro w hSw; (try dsimp only at hSw); go_simp; try with_reducible rfl)
                  try simp only [Act.put, List.setIfInBounds_toArray, List.set_cons_zero, List.set_cons_succ]
                  refine wpAnyH_take (i := 4) (oi := { dst := some 54, op := Go.Op.move (Go.Operand.tmp 7), type := 3, pos := "ref.go:44", after := #[{ on := 2, ground := Go.Ground.guard }], guard := some (2, false) }) (v := ?_) rfl (by kernel_rfl) (by kernel_rfl) (by kernel_rfl) (fun _ _ _ h => h) (Or.inl ⟨by rfl, ?hy⟩) hH ?_
                  case hy => (intro w hSw; (try dsimp only at hSw); go_simp; try with_reducible rfl)
                  try simp only [Act.put, List.setIfInBounds_toArray, List.set_cons_zero, List.set_cons_succ]
                  refine wpAnyH_take (i := 5) (oi := { dst := some 55, op := Go.Op.indexAddr 26 (Go.Operand.tmp 53) (Go.Operand.tmp 54), type := 0, pos := "ref.go:44", after := #[{ on := 3, ground := Go.Ground.data }, { on := 4, ground := Go.Ground.data }, { on := 2, ground := Go.Ground.guard }], guard := some (2, false) }) (v := ?_) rfl (by kernel_rfl) (by kernel_rfl) (by kernel_rfl) (fun _ _ _ h => h) (Or.inl ⟨by rfl, ?hy⟩) hH ?_
                  case hy => (intro w hSw; (try dsimp only at hSw); go_simp; try with_reducible rfl)
                  try simp only [Act.put, List.setIfInBounds_toArray, List.set_cons_zero, List.set_cons_succ]
                  refine wpAnyH_take (i := 6) (oi := { dst := some 56, op := Go.Op.fieldAddr 67 (Go.Operand.tmp 55) 0, type := 0, pos := "ref.go:44", after := #[{ on := 5, ground := Go.Ground.data }, { on := 2, ground := Go.Ground.guard }], guard := some (2, false) }) (v := ?_) rfl (by kernel_rfl) (by kernel_rfl) (by kernel_rfl) (fun _ _ _ h => h) (Or.inl ⟨by rfl, ?hy⟩) hH ?_
                  case hy => (intro w hSw; (try dsimp only at hSw); go_simp; try with_reducible rfl)
                  try simp only [Act.put, List.setIfInBounds_toArray, List.set_cons_zero, List.set_cons_succ]
                  refine wpAnyH_take (i := 7) (oi := { dst := some 57, op := Go.Op.load 3 (Go.Operand.tmp 56), type := 3, pos := "ref.go:44", after := #[{ on := 6, ground := Go.Ground.data }, { on := 2, ground := Go.Ground.guard }], guard := some (2, false) }) (v := ?_) rfl (by kernel_rfl) (by kernel_rfl) (by kernel_rfl) (fun _ _ _ h => h) (Or.inl ⟨by rfl, ?hy⟩) hH ?_
                  case hy => (intro w hSw; (try dsimp only at hSw); go_simp; try with_reducible rfl)
                  try simp only [Act.put, List.setIfInBounds_toArray, List.set_cons_zero, List.set_cons_succ]
                  refine wpAnyH_take (i := 8) (oi := { dst := some 58, op := Go.Op.fieldAddr 67 (Go.Operand.tmp 6) 0, type := 0, pos := "ref.go:44", after := #[{ on := 2, ground := Go.Ground.guard }], guard := some (2, false) }) (v := ?_) rfl (by kernel_rfl) (by kernel_rfl) (by kernel_rfl) (fun _ _ _ h => h) (Or.inl ⟨by rfl, ?hy⟩) hH ?_
                  case hy => (intro w hSw; (try dsimp only at hSw); go_simp; try with_reducible rfl)
                  try simp only [Act.put, List.setIfInBounds_toArray, List.set_cons_zero, List.set_cons_succ]
                  refine wpAnyH_take (i := 9) (oi := { dst := some 59, op := Go.Op.load 3 (Go.Operand.tmp 58), type := 3, pos := "ref.go:44", after := #[{ on := 8, ground := Go.Ground.data }, { on := 2, ground := Go.Ground.guard }], guard := some (2, false) }) (v := ?_) rfl (by kernel_rfl) (by kernel_rfl) (by kernel_rfl) (fun _ _ _ h => h) (Or.inl ⟨by rfl, ?hy⟩) hH ?_
                  case hy => (intro w hSw; (try dsimp only at hSw); go_simp; try with_reducible rfl)
                  try simp only [Act.put, List.setIfInBounds_toArray, List.set_cons_zero, List.set_cons_succ]
                  refine wpAnyH_take (i := 10) (oi := { dst := some 60, op := Go.Op.binOp Go.BinOp.geq 3 (Go.Operand.tmp 57) (Go.Operand.tmp 59) 3, type := 4, pos := "ref.go:44", after := #[{ on := 7, ground := Go.Ground.data }, { on := 9, ground := Go.Ground.data }, { on := 2, ground := Go.Ground.guard }], guard := some (2, false) }) (v := ?_) rfl (by kernel_rfl) (by kernel_rfl) (by kernel_rfl) (fun _ _ _ h => h) (Or.inl ⟨by rfl, ?hy⟩) hH ?_
                  case hy => (intro w hSw; (try dsimp only at hSw); go_simp; try with_reducible rfl)
                  try simp only [Act.put, List.setIfInBounds_toArray, List.set_cons_zero, List.set_cons_succ]
                  refine wpAnyH_take (i := 11) (oi := { dst := some 61, op := Go.Op.pick (Go.Operand.tmp 52) (Go.Operand.const (Go.Value.bool true)) (Go.Operand.tmp 60), type := 4, pos := "ref.go:44", after := #[{ on := 2, ground := Go.Ground.data }, { on := 10, ground := Go.Ground.data }], guard := none }) (v := ?_) rfl (by kernel_rfl) (by kernel_rfl) (by kernel_rfl) (fun _ _ _ h => h) (Or.inl ⟨by rfl, ?hy⟩) hH ?_
                  case hy => (intro w hSw; (try dsimp only at hSw); go_simp; try with_reducible rfl)
                  try simp only [Act.put, List.setIfInBounds_toArray, List.set_cons_zero, List.set_cons_succ]
                  refine wpAnyH_done (by kernel_rfl) ?_ _
                  have hbx := below_then hby hby.size hH
                  clear hH r0' ye' hd4 hd5
                  go_wp2
                  go_roundw
                  case rel => exact ⟨k + 1, by omega, by go_num, HG.out, hbx⟩
                  case measure => simp [intOf]; omega
    · have hkl : k = l.length := by omega
      subst hkl
      have HE : Hid (refMay l = true) := HMU.out
      clear hlt hk hA hAn
      go_wp2
      go_ret
      exact ⟨by rw [HE.out]; rfl, hb⟩
end Go.Proofs.Ytbfjoakaofgapaa
