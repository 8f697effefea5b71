/- The reference of layer 11: what is final, one. -/
import Derived.Test.YtbfjoakaofgapaaRef11c
import Derived.Test.YtbfjoakaofgapaaFinal
namespace Go.Proofs.Ytbfjoakaofgapaa
set_option linter.unusedSimpArgs false
set_option linter.unusedVariables false
set_option linter.unusedSectionVars false
open Go Go.RowKit
set_option maxRecDepth 100000

theorem chkT_zero (x : Chk) (h : x = Chk.zero) : x = Chk.zero := h
def finP (c : Cnf) (l : List Blk) (ls : List Lnk) (js : List Chk) (x : Chk) (z : Lnk) : Bool := decide (z.src = x) && (strongB c l ls (wayOf z) && endsB l js (wayOf z))
section
variable {c : Cnf} {l : List Blk} {ls : List Lnk} {js : List Chk} {x : Chk} {z : Lnk}
theorem finalB_eq : finalB c l ls js x = (decide (x = Chk.zero) || (fineL c l ls).any (finP c l ls js x)) := rfl
theorem way_src (h : z.src = x) : wayOf z = ⟨x, z.tgt⟩ := by unfold wayOf; rw [h]
theorem finP_src (h : z.src ≠ x) : finP c l ls js x z = false := by unfold finP; rw [decide_eq_false h]; rfl
theorem finP_far (h : z.src = x) (hf : x.ep.1 + 2 < z.tgt.ep.1) : finP c l ls js x z = false := by
  unfold finP endsB
  rw [way_src h, decide_eq_false (show ¬ z.tgt.ep.1 - x.ep.1 = 1 by omega), decide_eq_false (show ¬ z.tgt.ep.1 - x.ep.1 = 2 by omega)]
  simp
theorem finP_weak (h : z.src = x) (hs : strongB c l ls ⟨x, z.tgt⟩ = false) : finP c l ls js x z = false := by
  unfold finP; rw [way_src h, hs]; simp
theorem finP_next (h : z.src = x) (hs : strongB c l ls ⟨x, z.tgt⟩ = true) (he : z.tgt.ep.1 = x.ep.1 + 1) : finP c l ls js x z = true := by
  unfold finP endsB
  rw [way_src h, hs, decide_eq_true h, decide_eq_true (show z.tgt.ep.1 - x.ep.1 = 1 by omega)]
  simp
theorem finP_mid (h : z.src = x) (hs : strongB c l ls ⟨x, z.tgt⟩ = true) (he : z.tgt.ep.1 = x.ep.1 + 2) : finP c l ls js x z = js.any (midB l ⟨x, z.tgt⟩) := by
  unfold finP endsB
  rw [way_src h, hs, decide_eq_true h, decide_eq_false (show ¬ z.tgt.ep.1 - x.ep.1 = 1 by omega), decide_eq_true (show z.tgt.ep.1 - x.ep.1 = 2 by omega)]
  simp
end
theorem any_hit {α : Type} {p : α → Bool} {l : List α} {k : Nat} {x : α} (h : l[k]? = some x) (hp : p x = true) : l.any p = true := List.any_eq_true.2 ⟨x, List.mem_of_getElem? h, hp⟩
theorem any_step {α : Type} {p : α → Bool} {l : List α} {k : Nat} {x : α} (h : l[k]? = some x) (h1 : (l.take k).any p = false) (hp : p x = false) : (l.take (k + 1)).any p = false := by
  rw [take_snoc h, List.any_append, h1]; simp [hp]
set_option maxHeartbeats 8000000 in
theorem rfinal1_any (c : Cnf) (v : Value) (l : List Blk) (vl : Value) (ls : List Lnk) (vs : Value) (js : List Chk) (vj : Value) (x : Chk) (w : World) (hC : CnfAt w v c) (hS : Sl 5 encBlk w vl l) (hl : l.length ≤ 900000) (hF : Sl 7 encLnk w vs (fineL c l ls)) (hfn : (fineL c l ls).length ≤ 900000) (hJ : Sl 3 encChk w vj js) :
    Calls Try.prog 74 #[v, vl, vs, vj, vChk x] w fun e w' => e = .returned (.bool (finalB c l ls js x)) ∧ Below w.heap.size w w' := by
  have HC := hide hC
  have HS := hide hS
  have HFN := hide hfn
  have hjl := hJ.len_le
  obtain ⟨AJ, capJ, rfl, hcapJ, hmaxJ, hAJ⟩ := id hJ
  have HJ := hide hJ
  obtain ⟨s, rfl, hs⟩ := hC
  obtain ⟨n, hn⟩ : ∃ n, (fineL c l ls).length = n := ⟨_, rfl⟩
  obtain ⟨A, cap, hv, hcap, hmax, hA⟩ := id hF
  rw [hn] at hv hfn
  subst hv
  have HF := hide hF
  have HN := hide hn
  clear hs hS hJ hF hn hmax hcap hcapJ hmaxJ
  have hgd := guardChk
  by_cases h0 : x = Chk.zero
  · have hq : ∀ W', (Op.equalIn 10000 42 (.agg #[.int .i64 x.ep.1, .int .u64 x.root.a.1, .int .u64 x.root.b.1]) (.agg #[.int .i64 0, .int .u64 0, .int .u64 0])).run Try.prog W' = .ok true W' := fun W' => by rw [run_equalIn_Chk0, decide_eq_true h0]
    have HE : Hid (finalB c l ls js x = true) := by unfold Hid; rw [finalB_eq, decide_eq_true h0]; rfl
    clear h0 hA hAJ
    go_enter Try.func74, Try.ntmps74
    go_wp2
    go_ret
    exact ⟨by rw [HE.out]; rfl, (below_alloc w _).alloc (by simp) _⟩
  · have hq : ∀ W', (Op.equalIn 10000 42 (.agg #[.int .i64 x.ep.1, .int .u64 x.root.a.1, .int .u64 x.root.b.1]) (.agg #[.int .i64 0, .int .u64 0, .int .u64 0])).run Try.prog W' = .ok false W' := fun W' => by rw [run_equalIn_Chk0, decide_eq_false h0]
    have HE0 : Hid (finalB c l ls js x = (fineL c l ls).any (finP c l ls js x)) := by unfold Hid; rw [finalB_eq, decide_eq_false h0]; rfl
    clear h0
    go_enter Try.func74, Try.ntmps74
    go_wp2
    obtain ⟨W, hW⟩ : ∃ W, (w.alloc (.cells #[s, .int .u64 c.seed.1, .int .i64 c.epoch.1, .int .i64 c.num.1, .int .i64 c.den.1] 25)).alloc (.cells #[.int .i64 x.ep.1, .int .u64 x.root.a.1, .int .u64 x.root.b.1] 42) = W := ⟨_, rfl⟩
    have hbW : Below w.heap.size w W := by rw [← hW]; exact (below_alloc w _).alloc (by simp) _
    have hB : Blok W w.heap.size 25 #[s, .int .u64 c.seed.1, .int .i64 c.epoch.1, .int .i64 c.num.1, .int .i64 c.den.1] := by rw [← hW]; exact (Blok.new _ _ _).alloc _
    have hX : Blok W (w.heap.size + 1) 42 #[.int .i64 x.ep.1, .int .u64 x.root.a.1, .int .u64 x.root.b.1] := by rw [← hW]; simpa using Blok.new (w.alloc (.cells #[s, .int .u64 c.seed.1, .int .i64 c.epoch.1, .int .i64 c.num.1, .int .i64 c.den.1] 25)) 42 #[.int .i64 x.ep.1, .int .u64 x.root.a.1, .int .u64 x.root.b.1]
    rw [hW]
    clear hW hq
    go_loopw [11, 14] (fun i u14 wr => ∃ k : Nat, k ≤ n ∧ i = .int .i64 k ∧ ((fineL c l ls).take k).any (finP c l ls js x) = false ∧ Below W.heap.size W wr) (fun i _ _ => n - (intOf i).toNat)
    case atStart => exact ⟨0, Nat.zero_le _, rfl, rfl, Below.refl _ _⟩
    case round =>
      obtain ⟨k, hk, rfl, hno, hbr⟩ := hrel
      have HNO := hide hno
      clear hno
      by_cases hlt : k < n
      · obtain ⟨z, hz⟩ : ∃ z, (fineL c l ls)[k]? = some z := ⟨_, List.getElem?_eq_getElem (by rw [HN.out]; exact hlt)⟩
        obtain ⟨b, off, rfl, hbl, hc⟩ := hA (by intro h; rw [h] at hz; simp at hz)
        have hmz := (mem_fine.1 (List.mem_of_getElem? hz)).2
        have HZ := hide hz
        have HMZ : Hid (z.src = x → 0 ≤ x.ep.1 ∧ x.ep.1 < z.tgt.ep.1 ∧ z.tgt.ep.1 ≤ 1048576) := fun h => by
          unfold mayL at hmz
          simp only [Bool.and_eq_true, decide_eq_true_eq] at hmz
          obtain ⟨_, _, h1, h2, h3⟩ := hmz.1.2
          rw [h] at h1 h2
          exact ⟨h1, h2, h3⟩
        have HY0 : Hid (∀ w', Below W.heap.size W w' → w'.cell? ⟨b, off + k * 7, none⟩ = some (.int .i64 z.frm.1)) := fun w' h => ((below_then hbW hbW.size h).cell (p := ⟨b, _, none⟩) hbl).trans (hc k z hz 0 _ rfl)
        have HY1 : Hid (∀ w', Below W.heap.size W w' → w'.cell? ⟨b, off + k * 7 + 1, none⟩ = some (.int .i64 z.src.ep.1)) := fun w' h => ((below_then hbW hbW.size h).cell (p := ⟨b, _, none⟩) hbl).trans (hc k z hz 1 _ rfl)
        have HY2 : Hid (∀ w', Below W.heap.size W w' → w'.cell? ⟨b, off + k * 7 + 2, none⟩ = some (.int .u64 z.src.root.a.1)) := fun w' h => ((below_then hbW hbW.size h).cell (p := ⟨b, _, none⟩) hbl).trans (hc k z hz 2 _ rfl)
        have HY3 : Hid (∀ w', Below W.heap.size W w' → w'.cell? ⟨b, off + k * 7 + 3, none⟩ = some (.int .u64 z.src.root.b.1)) := fun w' h => ((below_then hbW hbW.size h).cell (p := ⟨b, _, none⟩) hbl).trans (hc k z hz 3 _ rfl)
        have HY4 : Hid (∀ w', Below W.heap.size W w' → w'.cell? ⟨b, off + k * 7 + 4, none⟩ = some (.int .i64 z.tgt.ep.1)) := fun w' h => ((below_then hbW hbW.size h).cell (p := ⟨b, _, none⟩) hbl).trans (hc k z hz 4 _ rfl)
        have HY5 : Hid (∀ w', Below W.heap.size W w' → w'.cell? ⟨b, off + k * 7 + 5, none⟩ = some (.int .u64 z.tgt.root.a.1)) := fun w' h => ((below_then hbW hbW.size h).cell (p := ⟨b, _, none⟩) hbl).trans (hc k z hz 5 _ rfl)
        have HY6 : Hid (∀ w', Below W.heap.size W w' → w'.cell? ⟨b, off + k * 7 + 6, none⟩ = some (.int .u64 z.tgt.root.b.1)) := fun w' h => ((below_then hbW hbW.size h).cell (p := ⟨b, _, none⟩) hbl).trans (hc k z hz 6 _ rfl)
        have i6 : (0 : Int) ≤ (k : Int) := by omega
        have i7 : (k : Int) < (n : Int) := by omega
        have HSTEP : Hid (finP c l ls js x z = false → ((fineL c l ls).take (k + 1)).any (finP c l ls js x) = false) := fun h => any_step HZ.out HNO.out h
        have HHIT : Hid (finP c l ls js x z = true → finalB c l ls js x = true) := fun h => by rw [HE0.out]; exact any_hit HZ.out h
        clear hz hmz hc hA
        have e0 := HY0.out wr hbr
        have e1 := HY1.out wr hbr
        have e2 := HY2.out wr hbr
        have e3 := HY3.out wr hbr
        have e4 := HY4.out wr hbr
        have e5 := HY5.out wr hbr
        have e6 := HY6.out wr hbr
        go_wp2_with fail
        obtain ⟨wq, hwq⟩ : ∃ wq, wr.alloc (.cells #[.int .i64 z.tgt.ep.1, .int .u64 z.tgt.root.a.1, .int .u64 z.tgt.root.b.1] 42) = wq := ⟨_, rfl⟩
        have hbq : Below wr.heap.size wr wq := by rw [← hwq]; exact below_alloc _ _
        have hT : Blok wq wr.heap.size 42 #[.int .i64 z.tgt.ep.1, .int .u64 z.tgt.root.a.1, .int .u64 z.tgt.root.b.1] := by rw [← hwq]; exact Blok.new _ _ _
        rw [hwq]
        clear hwq e0 e1 e2 e3 e4 e5 e6
        have hb4 := below_ext hbr hbq
        have hXq := hX.after hb4
        have x0 := hXq.ext 0 rfl
        have x1 := hXq.ext 1 rfl
        have x2 := hXq.ext 2 rfl
        have t0 := hT.ext 0 rfl
        have y1 : ∀ w', Below wq.heap.size wq w' → w'.cell? ⟨b, off + k * 7 + 1, none⟩ = some (.int .i64 z.src.ep.1) := fun w' h => HY1.out w' (below_ext hb4 h)
        have y2 : ∀ w', Below wq.heap.size wq w' → w'.cell? ⟨b, off + k * 7 + 2, none⟩ = some (.int .u64 z.src.root.a.1) := fun w' h => HY2.out w' (below_ext hb4 h)
        have y3 : ∀ w', Below wq.heap.size wq w' → w'.cell? ⟨b, off + k * 7 + 3, none⟩ = some (.int .u64 z.src.root.b.1) := fun w' h => HY3.out w' (below_ext hb4 h)
        by_cases hsx : z.src = x
        · have hq : ∀ W', (Op.equalIn 10000 42 (.agg #[.int .i64 z.src.ep.1, .int .u64 z.src.root.a.1, .int .u64 z.src.root.b.1]) (.agg #[.int .i64 x.ep.1, .int .u64 x.root.a.1, .int .u64 x.root.b.1])).run Try.prog W' = .ok true W' := fun W' => by have := run_equalIn_Chk (z.src) (x) W'; rw [decide_eq_true hsx] at this; exact this
          obtain ⟨n1, n2, n3⟩ := HMZ.out hsx
          have HSX := hide hsx
          clear hsx
          have m2 : IntKind.i64.wrap (x.ep.1 + 2) = x.ep.1 + 2 := IntWalk.i64_in _ (by omega)
          have m1 : IntKind.i64.wrap (x.ep.1 + 1) = x.ep.1 + 1 := IntWalk.i64_in _ (by omega)
          by_cases hfar : z.tgt.ep.1 > x.ep.1 + 2
          · have hd : decide (z.tgt.ep.1 > x.ep.1 + 2) = true := decide_eq_true hfar
            have HS2 := hide (HSTEP.out (finP_far HSX.out (by omega)))
            go_wp2
            refine wp_region_held_drew (S := fun w' => Below wq.heap.size wq w') (by kernel_rfl) (below_drew wq) (fun hH => ?_)
            refine wpAnyH_take (i := 0) (oi := { dst := some 31, op := Go.Op.move (Go.Operand.tmp 2), type := 40, pos := "ref.go:114", after := #[], guard := none }) (v := ?_) rfl (by kernel_rfl) (by kernel_rfl) (by kernel_rfl) (fun _ _ _ h => h) (Or.inl ⟨by rfl, ?hy⟩) hH ?_
            case hy => (intro w hSw; (try dsimp only at hSw); go_simp; try with_reducible rfl)
            try simp only [Act.put, List.setIfInBounds_toArray, List.set_cons_zero, List.set_cons_succ]
            refine wpAnyH_take (i := 1) (oi := { dst := some 32, op := Go.Op.move (Go.Operand.tmp 11), type := 3, pos := "ref.go:114", after := #[], guard := none }) (v := ?_) rfl (by kernel_rfl) (by kernel_rfl) (by kernel_rfl) (fun _ _ _ h => h) (Or.inl ⟨by rfl, ?hy⟩) hH ?_
            case hy => (intro w hSw; (try dsimp only at hSw); go_simp; try with_reducible rfl)
            try simp only [Act.put, List.setIfInBounds_toArray, List.set_cons_zero, List.set_cons_succ]
            refine wpAnyH_take (i := 2) (oi := { dst := some 33, op := Go.Op.indexAddr 40 (Go.Operand.tmp 31) (Go.Operand.tmp 32), type := 0, pos := "ref.go:114", after := #[{ on := 0, ground := Go.Ground.data }, { on := 1, ground := Go.Ground.data }], guard := none }) (v := ?_) rfl (by kernel_rfl) (by kernel_rfl) (by kernel_rfl) (fun _ _ _ h => h) (Or.inl ⟨by rfl, ?hy⟩) hH ?_
            case hy => (intro w hSw; (try dsimp only at hSw); go_simp; try with_reducible rfl)
            try simp only [Act.put, List.setIfInBounds_toArray, List.set_cons_zero, List.set_cons_succ]
            refine wpAnyH_take (i := 3) (oi := { dst := some 34, op := Go.Op.fieldAddr 44 (Go.Operand.tmp 33) 1, type := 0, pos := "ref.go:114", after := #[{ on := 2, ground := Go.Ground.data }], guard := none }) (v := ?_) rfl (by kernel_rfl) (by kernel_rfl) (by kernel_rfl) (fun _ _ _ h => h) (Or.inl ⟨by rfl, ?hy⟩) hH ?_
            case hy => (intro w hSw; (try dsimp only at hSw); go_simp; try with_reducible rfl)
            try simp only [Act.put, List.setIfInBounds_toArray, List.set_cons_zero, List.set_cons_succ]
            refine wpAnyH_take (i := 4) (oi := { dst := some 35, op := Go.Op.load 42 (Go.Operand.tmp 34), type := 42, pos := "ref.go:114", after := #[{ on := 3, ground := Go.Ground.data }], guard := none }) (v := ?_) rfl (by kernel_rfl) (by kernel_rfl) (by kernel_rfl) (fun _ _ _ h => h) (Or.inl ⟨by rfl, ?hy⟩) hH ?_
            case hy => (intro w hSw; (try dsimp only at hSw); go_simp; try with_reducible rfl)
            try simp only [Act.put, List.setIfInBounds_toArray, List.set_cons_zero, List.set_cons_succ]
            refine wpAnyH_take (i := 5) (oi := { dst := some 36, op := Go.Op.load 42 (Go.Operand.tmp 9), type := 42, pos := "ref.go:114", after := #[], guard := none }) (v := ?_) rfl (by kernel_rfl) (by kernel_rfl) (by kernel_rfl) (fun _ _ _ h => h) (Or.inl ⟨by rfl, ?hy⟩) hH ?_
            case hy => (intro w hSw; (try dsimp only at hSw); go_simp; try with_reducible rfl)
            try simp only [Act.put, List.setIfInBounds_toArray, List.set_cons_zero, List.set_cons_succ]
            refine wpAnyH_take (i := 6) (oi := { dst := some 37, op := Go.Op.binOp Go.BinOp.neq 42 (Go.Operand.tmp 35) (Go.Operand.tmp 36) 42, type := 4, pos := "ref.go:114", after := #[{ on := 4, ground := Go.Ground.data }, { on := 5, ground := Go.Ground.data }], guard := none }) (v := ?_) rfl (by kernel_rfl) (by kernel_rfl) (by kernel_rfl) (fun _ _ _ h => h) (Or.inl ⟨by rfl, ?hy⟩) hH ?_
            case hy => (intro w hSw; (try dsimp only at hSw); go_simp; try with_reducible rfl)
            try simp only [Act.put, List.setIfInBounds_toArray, List.set_cons_zero, List.set_cons_succ]
            refine wpAnyH_take (i := 7) (oi := { dst := some 38, op := Go.Op.move (Go.Operand.tmp 37), type := 4, pos := "ref.go:114", after := #[{ on := 6, ground := Go.Ground.data }], guard := none }) (v := ?_) rfl (by kernel_rfl) (by kernel_rfl) (by kernel_rfl) (fun _ _ _ h => h) (Or.inl ⟨by rfl, ?hy⟩) hH ?_
            case hy => (intro w hSw; (try dsimp only at hSw); go_simp; try with_reducible rfl)
            try simp only [Act.put, List.setIfInBounds_toArray, List.set_cons_zero, List.set_cons_succ]
            refine wpAnyH_take (i := 8) (oi := { dst := some 39, op := Go.Op.fieldAddr 42 (Go.Operand.tmp 12) 0, type := 0, pos := "ref.go:114", after := #[{ on := 7, ground := Go.Ground.guard }], guard := some (7, false) }) (v := ?_) rfl (by kernel_rfl) (by kernel_rfl) (by kernel_rfl) (fun _ _ _ h => h) (Or.inl ⟨by rfl, ?hy⟩) hH ?_
            case hy => (intro w hSw; (try dsimp only at hSw); go_simp; try with_reducible rfl)
            try simp only [Act.put, List.setIfInBounds_toArray, List.set_cons_zero, List.set_cons_succ]
            refine wpAnyH_take (i := 9) (oi := { dst := some 40, op := Go.Op.load 3 (Go.Operand.tmp 39), type := 3, pos := "ref.go:114", after := #[{ on := 8, ground := Go.Ground.data }, { on := 7, ground := Go.Ground.guard }], guard := some (7, false) }) (v := ?_) rfl (by kernel_rfl) (by kernel_rfl) (by kernel_rfl) (fun _ _ _ h => h) (Or.inl ⟨by rfl, ?hy⟩) hH ?_
            case hy => (intro w hSw; (try dsimp only at hSw); go_simp; try with_reducible rfl)
            try simp only [Act.put, List.setIfInBounds_toArray, List.set_cons_zero, List.set_cons_succ]
            refine wpAnyH_take (i := 10) (oi := { dst := some 41, op := Go.Op.fieldAddr 42 (Go.Operand.tmp 9) 0, type := 0, pos := "ref.go:114", after := #[{ on := 7, ground := Go.Ground.guard }], guard := some (7, false) }) (v := ?_) rfl (by kernel_rfl) (by kernel_rfl) (by kernel_rfl) (fun _ _ _ h => h) (Or.inl ⟨by rfl, ?hy⟩) hH ?_
            case hy => (intro w hSw; (try dsimp only at hSw); go_simp; try with_reducible rfl)
            try simp only [Act.put, List.setIfInBounds_toArray, List.set_cons_zero, List.set_cons_succ]
            refine wpAnyH_take (i := 11) (oi := { dst := some 42, op := Go.Op.load 3 (Go.Operand.tmp 41), type := 3, pos := "ref.go:114", after := #[{ on := 10, ground := Go.Ground.data }, { on := 7, ground := Go.Ground.guard }], guard := some (7, false) }) (v := ?_) rfl (by kernel_rfl) (by kernel_rfl) (by kernel_rfl) (fun _ _ _ h => h) (Or.inl ⟨by rfl, ?hy⟩) hH ?_
            case hy => (intro w hSw; (try dsimp only at hSw); go_simp; try with_reducible rfl)
            try simp only [Act.put, List.setIfInBounds_toArray, List.set_cons_zero, List.set_cons_succ]
            refine wpAnyH_take (i := 12) (oi := { dst := some 43, op := Go.Op.binOp Go.BinOp.add 3 (Go.Operand.tmp 42) (Go.Operand.const (Go.Value.int Go.IntKind.i64 2)) 3, type := 3, pos := "ref.go:114", after := #[{ on := 11, ground := Go.Ground.data }, { on := 7, ground := Go.Ground.guard }], guard := some (7, false) }) (v := ?_) rfl (by kernel_rfl) (by kernel_rfl) (by kernel_rfl) (fun _ _ _ h => h) (Or.inl ⟨by rfl, ?hy⟩) hH ?_
            case hy => (intro w hSw; (try dsimp only at hSw); go_simp; try with_reducible rfl)
            try simp only [Act.put, List.setIfInBounds_toArray, List.set_cons_zero, List.set_cons_succ]
            refine wpAnyH_take (i := 13) (oi := { dst := some 44, op := Go.Op.binOp Go.BinOp.gtr 3 (Go.Operand.tmp 40) (Go.Operand.tmp 43) 3, type := 4, pos := "ref.go:114", after := #[{ on := 9, ground := Go.Ground.data }, { on := 12, ground := Go.Ground.data }, { on := 7, ground := Go.Ground.guard }], guard := some (7, false) }) (v := ?_) rfl (by kernel_rfl) (by kernel_rfl) (by kernel_rfl) (fun _ _ _ h => h) (Or.inl ⟨by rfl, ?hy⟩) hH ?_
            case hy => (intro w hSw; (try dsimp only at hSw); go_simp; try with_reducible rfl)
            try simp only [Act.put, List.setIfInBounds_toArray, List.set_cons_zero, List.set_cons_succ]
            refine wpAnyH_take (i := 14) (oi := { dst := some 45, op := Go.Op.pick (Go.Operand.tmp 38) (Go.Operand.const (Go.Value.bool true)) (Go.Operand.tmp 44), type := 4, pos := "ref.go:114", after := #[{ on := 7, ground := Go.Ground.data }, { on := 13, ground := Go.Ground.data }], guard := none }) (v := ?_) rfl (by kernel_rfl) (by kernel_rfl) (by kernel_rfl) (fun _ _ _ h => h) (Or.inl ⟨by rfl, ?hy⟩) hH ?_
            case hy => (intro w hSw; (try dsimp only at hSw); go_simp; try with_reducible rfl)
            try simp only [Act.put, List.setIfInBounds_toArray, List.set_cons_zero, List.set_cons_succ]
            refine wpAnyH_done (by kernel_rfl) ?_ _
            have hbz := below_ext hb4 hH
            clear hH x0 x1 x2 t0 y1 y2 y3 hd m1 m2 hq hfar
            go_wp2
            go_roundw
            case rel => exact ⟨k + 1, by omega, by go_num, HS2.out, hbz⟩
            case measure => simp [intOf]; omega
          · have hd : decide (z.tgt.ep.1 > x.ep.1 + 2) = false := decide_eq_false hfar
            go_wp2
            refine wp_region_held_drew (S := fun w' => Below wq.heap.size wq w') (by kernel_rfl) (below_drew wq) (fun hH => ?_)
            refine wpAnyH_take (i := 0) (oi := { dst := some 31, op := Go.Op.move (Go.Operand.tmp 2), type := 40, pos := "ref.go:114", after := #[], guard := none }) (v := ?_) rfl (by kernel_rfl) (by kernel_rfl) (by kernel_rfl) (fun _ _ _ h => h) (Or.inl ⟨by rfl, ?hy⟩) hH ?_
            case hy => (intro w hSw; (try dsimp only at hSw); go_simp; try with_reducible rfl)
            try simp only [Act.put, List.setIfInBounds_toArray, List.set_cons_zero, List.set_cons_succ]
            refine wpAnyH_take (i := 1) (oi := { dst := some 32, op := Go.Op.move (Go.Operand.tmp 11), type := 3, pos := "ref.go:114", after := #[], guard := none }) (v := ?_) rfl (by kernel_rfl) (by kernel_rfl) (by kernel_rfl) (fun _ _ _ h => h) (Or.inl ⟨by rfl, ?hy⟩) hH ?_
            case hy => (intro w hSw; (try dsimp only at hSw); go_simp; try with_reducible rfl)
            try simp only [Act.put, List.setIfInBounds_toArray, List.set_cons_zero, List.set_cons_succ]
            refine wpAnyH_take (i := 2) (oi := { dst := some 33, op := Go.Op.indexAddr 40 (Go.Operand.tmp 31) (Go.Operand.tmp 32), type := 0, pos := "ref.go:114", after := #[{ on := 0, ground := Go.Ground.data }, { on := 1, ground := Go.Ground.data }], guard := none }) (v := ?_) rfl (by kernel_rfl) (by kernel_rfl) (by kernel_rfl) (fun _ _ _ h => h) (Or.inl ⟨by rfl, ?hy⟩) hH ?_
            case hy => (intro w hSw; (try dsimp only at hSw); go_simp; try with_reducible rfl)
            try simp only [Act.put, List.setIfInBounds_toArray, List.set_cons_zero, List.set_cons_succ]
            refine wpAnyH_take (i := 3) (oi := { dst := some 34, op := Go.Op.fieldAddr 44 (Go.Operand.tmp 33) 1, type := 0, pos := "ref.go:114", after := #[{ on := 2, ground := Go.Ground.data }], guard := none }) (v := ?_) rfl (by kernel_rfl) (by kernel_rfl) (by kernel_rfl) (fun _ _ _ h => h) (Or.inl ⟨by rfl, ?hy⟩) hH ?_
            case hy => (intro w hSw; (try dsimp only at hSw); go_simp; try with_reducible rfl)
            try simp only [Act.put, List.setIfInBounds_toArray, List.set_cons_zero, List.set_cons_succ]
            refine wpAnyH_take (i := 4) (oi := { dst := some 35, op := Go.Op.load 42 (Go.Operand.tmp 34), type := 42, pos := "ref.go:114", after := #[{ on := 3, ground := Go.Ground.data }], guard := none }) (v := ?_) rfl (by kernel_rfl) (by kernel_rfl) (by kernel_rfl) (fun _ _ _ h => h) (Or.inl ⟨by rfl, ?hy⟩) hH ?_
            case hy => (intro w hSw; (try dsimp only at hSw); go_simp; try with_reducible rfl)
            try simp only [Act.put, List.setIfInBounds_toArray, List.set_cons_zero, List.set_cons_succ]
            refine wpAnyH_take (i := 5) (oi := { dst := some 36, op := Go.Op.load 42 (Go.Operand.tmp 9), type := 42, pos := "ref.go:114", after := #[], guard := none }) (v := ?_) rfl (by kernel_rfl) (by kernel_rfl) (by kernel_rfl) (fun _ _ _ h => h) (Or.inl ⟨by rfl, ?hy⟩) hH ?_
            case hy => (intro w hSw; (try dsimp only at hSw); go_simp; try with_reducible rfl)
            try simp only [Act.put, List.setIfInBounds_toArray, List.set_cons_zero, List.set_cons_succ]
            refine wpAnyH_take (i := 6) (oi := { dst := some 37, op := Go.Op.binOp Go.BinOp.neq 42 (Go.Operand.tmp 35) (Go.Operand.tmp 36) 42, type := 4, pos := "ref.go:114", after := #[{ on := 4, ground := Go.Ground.data }, { on := 5, ground := Go.Ground.data }], guard := none }) (v := ?_) rfl (by kernel_rfl) (by kernel_rfl) (by kernel_rfl) (fun _ _ _ h => h) (Or.inl ⟨by rfl, ?hy⟩) hH ?_
            case hy => (intro w hSw; (try dsimp only at hSw); go_simp; try with_reducible rfl)
            try simp only [Act.put, List.setIfInBounds_toArray, List.set_cons_zero, List.set_cons_succ]
            refine wpAnyH_take (i := 7) (oi := { dst := some 38, op := Go.Op.move (Go.Operand.tmp 37), type := 4, pos := "ref.go:114", after := #[{ on := 6, ground := Go.Ground.data }], guard := none }) (v := ?_) rfl (by kernel_rfl) (by kernel_rfl) (by kernel_rfl) (fun _ _ _ h => h) (Or.inl ⟨by rfl, ?hy⟩) hH ?_
            case hy => (intro w hSw; (try dsimp only at hSw); go_simp; try with_reducible rfl)
            try simp only [Act.put, List.setIfInBounds_toArray, List.set_cons_zero, List.set_cons_succ]
            refine wpAnyH_take (i := 8) (oi := { dst := some 39, op := Go.Op.fieldAddr 42 (Go.Operand.tmp 12) 0, type := 0, pos := "ref.go:114", after := #[{ on := 7, ground := Go.Ground.guard }], guard := some (7, false) }) (v := ?_) rfl (by kernel_rfl) (by kernel_rfl) (by kernel_rfl) (fun _ _ _ h => h) (Or.inl ⟨by rfl, ?hy⟩) hH ?_
            case hy => (intro w hSw; (try dsimp only at hSw); go_simp; try with_reducible rfl)
            try simp only [Act.put, List.setIfInBounds_toArray, List.set_cons_zero, List.set_cons_succ]
            refine wpAnyH_take (i := 9) (oi := { dst := some 40, op := Go.Op.load 3 (Go.Operand.tmp 39), type := 3, pos := "ref.go:114", after := #[{ on := 8, ground := Go.Ground.data }, { on := 7, ground := Go.Ground.guard }], guard := some (7, false) }) (v := ?_) rfl (by kernel_rfl) (by kernel_rfl) (by kernel_rfl) (fun _ _ _ h => h) (Or.inl ⟨by rfl, ?hy⟩) hH ?_
            case hy => (intro w hSw; (try dsimp only at hSw); go_simp; try with_reducible rfl)
            try simp only [Act.put, List.setIfInBounds_toArray, List.set_cons_zero, List.set_cons_succ]
            refine wpAnyH_take (i := 10) (oi := { dst := some 41, op := Go.Op.fieldAddr 42 (Go.Operand.tmp 9) 0, type := 0, pos := "ref.go:114", after := #[{ on := 7, ground := Go.Ground.guard }], guard := some (7, false) }) (v := ?_) rfl (by kernel_rfl) (by kernel_rfl) (by kernel_rfl) (fun _ _ _ h => h) (Or.inl ⟨by rfl, ?hy⟩) hH ?_
            case hy => (intro w hSw; (try dsimp only at hSw); go_simp; try with_reducible rfl)
            try simp only [Act.put, List.setIfInBounds_toArray, List.set_cons_zero, List.set_cons_succ]
            refine wpAnyH_take (i := 11) (oi := { dst := some 42, op := Go.Op.load 3 (Go.Operand.tmp 41), type := 3, pos := "ref.go:114", after := #[{ on := 10, ground := Go.Ground.data }, { on := 7, ground := Go.Ground.guard }], guard := some (7, false) }) (v := ?_) rfl (by kernel_rfl) (by kernel_rfl) (by kernel_rfl) (fun _ _ _ h => h) (Or.inl ⟨by rfl, ?hy⟩) hH ?_
            case hy => (intro w hSw; (try dsimp only at hSw); go_simp; try with_reducible rfl)
            try simp only [Act.put, List.setIfInBounds_toArray, List.set_cons_zero, List.set_cons_succ]
            refine wpAnyH_take (i := 12) (oi := { dst := some 43, op := Go.Op.binOp Go.BinOp.add 3 (Go.Operand.tmp 42) (Go.Operand.const (Go.Value.int Go.IntKind.i64 2)) 3, type := 3, pos := "ref.go:114", after := #[{ on := 11, ground := Go.Ground.data }, { on := 7, ground := Go.Ground.guard }], guard := some (7, false) }) (v := ?_) rfl (by kernel_rfl) (by kernel_rfl) (by kernel_rfl) (fun _ _ _ h => h) (Or.inl ⟨by rfl, ?hy⟩) hH ?_
            case hy => (intro w hSw; (try dsimp only at hSw); go_simp; try with_reducible rfl)
            try simp only [Act.put, List.setIfInBounds_toArray, List.set_cons_zero, List.set_cons_succ]
            refine wpAnyH_take (i := 13) (oi := { dst := some 44, op := Go.Op.binOp Go.BinOp.gtr 3 (Go.Operand.tmp 40) (Go.Operand.tmp 43) 3, type := 4, pos := "ref.go:114", after := #[{ on := 9, ground := Go.Ground.data }, { on := 12, ground := Go.Ground.data }, { on := 7, ground := Go.Ground.guard }], guard := some (7, false) }) (v := ?_) rfl (by kernel_rfl) (by kernel_rfl) (by kernel_rfl) (fun _ _ _ h => h) (Or.inl ⟨by rfl, ?hy⟩) hH ?_
            case hy => (intro w hSw; (try dsimp only at hSw); go_simp; try with_reducible rfl)
            try simp only [Act.put, List.setIfInBounds_toArray, List.set_cons_zero, List.set_cons_succ]
            refine wpAnyH_take (i := 14) (oi := { dst := some 45, op := Go.Op.pick (Go.Operand.tmp 38) (Go.Operand.const (Go.Value.bool true)) (Go.Operand.tmp 44), type := 4, pos := "ref.go:114", after := #[{ on := 7, ground := Go.Ground.data }, { on := 13, ground := Go.Ground.data }], guard := none }) (v := ?_) rfl (by kernel_rfl) (by kernel_rfl) (by kernel_rfl) (fun _ _ _ h => h) (Or.inl ⟨by rfl, ?hy⟩) hH ?_
            case hy => (intro w hSw; (try dsimp only at hSw); go_simp; try with_reducible rfl)
            try simp only [Act.put, List.setIfInBounds_toArray, List.set_cons_zero, List.set_cons_succ]
            refine wpAnyH_done (by kernel_rfl) ?_ _
            have hb45 := below_ext hb4 hH
            have hT5 := hT.after hH
            have hb5 := below_then hbW hbW.size hb45
            clear hH x0 x1 x2 t0 y1 y2 y3 hd hq
            have hX5 := hX.after hb45
            have hB5 := hB.after hb45
            have r0 := hB5.cell 0
            have r1 := hB5.cell 1
            have r2 := hB5.cell 2
            have r3 := hB5.cell 3
            have r4 := hB5.cell 4
            have d0 := hX5.cell 0
            have g0 := hT5.cell 0
            have d1 := hX5.cell 1
            have g1 := hT5.cell 1
            have d2 := hX5.cell 2
            have g2 := hT5.cell 2
            cases hst : strongB c l ls ⟨x, z.tgt⟩ with
            | false =>
              have HST := hide hst
              have HS2 := hide (HSTEP.out (finP_weak HSX.out hst))
              clear hst
              go_wp2_with fail
              refine (rstrong_any c _ (fineL c l ls) _ x z.tgt _ (HC.out.after hb5) (HF.out.after hb5) HFN.out).mono ?_
              rw [strongL_fine, HST.out]
              rintro e w6 ⟨rfl, hw6⟩
              have hb46 := below_ext hb45 hw6
              have hT6 := hT5.after hw6
              clear d0 d1 d2 r0 r1 r2 r3 r4 g0 g1 g2
              go_wp2
              go_roundw
              case rel => exact ⟨k + 1, by omega, by go_num, HS2.out, hb46⟩
              case measure => simp [intOf]; omega
            | true =>
              have HST := hide hst
              clear hst
              go_wp2_with fail
              refine (rstrong_any c _ (fineL c l ls) _ x z.tgt _ (HC.out.after hb5) (HF.out.after hb5) HFN.out).mono ?_
              rw [strongL_fine, HST.out]
              rintro e w6 ⟨rfl, hw6⟩
              have hb46 := below_ext hb45 hw6
              have hT6 := hT5.after hw6
              clear d0 d1 d2 r0 r1 r2 r3 r4 g0 g1 g2
              have hX6 := hX.after hb46
              have d0 := hX6.cell 0
              have g0 := hT6.cell 0
              by_cases hnx : z.tgt.ep.1 = x.ep.1 + 1
              · have hnt : (z.tgt.ep.1 == x.ep.1 + 1) = true := by simpa using hnx
                have HE := hide (HHIT.out (finP_next HSX.out HST.out hnx))
                clear hnx
                go_wp2
                go_ret
                exact ⟨by rw [HE.out]; rfl, below_then hbW hbW.size hb46⟩
              · have hnt : (z.tgt.ep.1 == x.ep.1 + 1) = false := by simpa using hnx
                have HPM := hide (finP_mid (js := js) HSX.out HST.out (show z.tgt.ep.1 = x.ep.1 + 2 by omega))
                go_wp2
                clear d0 g0 hnt
                obtain ⟨wo, hwo⟩ : ∃ wo, wo = wr := ⟨_, rfl⟩
                subst hwo
                go_loopw [14] (fun i wr' => ∃ j : Nat, j ≤ js.length ∧ i = .int .i64 j ∧ (js.take j).any (midB l ⟨x, z.tgt⟩) = false ∧ Below W.heap.size W wr' ∧ Blok wr' wo.heap.size 42 #[.int .i64 z.tgt.ep.1, .int .u64 z.tgt.root.a.1, .int .u64 z.tgt.root.b.1]) (fun i _ => js.length - (intOf i).toNat)
                case atStart => exact ⟨0, Nat.zero_le _, rfl, rfl, hb46, hT6⟩
                case round =>
                  clear hb46 hT6
                  obtain ⟨j, hj, rfl, hnm, hbp', hTp'⟩ := hrel
                  have HNM := hide hnm
                  clear hnm
                  by_cases hltj : j < js.length
                  · obtain ⟨y, hy⟩ : ∃ y, js[j]? = some y := ⟨_, List.getElem?_eq_getElem hltj⟩
                    obtain ⟨bj, offj, rfl, hbj, hcj⟩ := hAJ (by intro h; rw [h] at hy; simp at hy)
                    have HY := hide hy
                    obtain ⟨wp, hwp⟩ : ∃ wp, wp = wr := ⟨_, rfl⟩
                    subst hwp
                    have hbp := hbp'
                    have hTp := hTp'
                    have HQ0 : Hid (∀ w', Below W.heap.size W w' → w'.cell? ⟨bj, offj + j * 3, none⟩ = some (.int .i64 y.ep.1)) := fun w' h => ((below_then hbW hbW.size h).cell (p := ⟨bj, _, none⟩) hbj).trans (hcj j y hy 0 _ rfl)
                    have HQ1 : Hid (∀ w', Below W.heap.size W w' → w'.cell? ⟨bj, offj + j * 3 + 1, none⟩ = some (.int .u64 y.root.a.1)) := fun w' h => ((below_then hbW hbW.size h).cell (p := ⟨bj, _, none⟩) hbj).trans (hcj j y hy 1 _ rfl)
                    have HQ2 : Hid (∀ w', Below W.heap.size W w' → w'.cell? ⟨bj, offj + j * 3 + 2, none⟩ = some (.int .u64 y.root.b.1)) := fun w' h => ((below_then hbW hbW.size h).cell (p := ⟨bj, _, none⟩) hbj).trans (hcj j y hy 2 _ rfl)
                    clear hbp' hTp' hy hcj hAJ
                    have j6 : (0 : Int) ≤ (j : Int) := by omega
                    have j7 : (j : Int) < (js.length : Int) := by omega
                    have hXp := hX.after hbp
                    have x1 := hXp.ext 1 rfl
                    have x2 := hXp.ext 2 rfl
                    have q1 : ∀ w', Below wp.heap.size wp w' → w'.cell? ⟨bj, offj + j * 3 + 1, none⟩ = some (.int .u64 y.root.a.1) := fun w' h => HQ1.out w' (below_ext hbp h)
                    have q2 : ∀ w', Below wp.heap.size wp w' → w'.cell? ⟨bj, offj + j * 3 + 2, none⟩ = some (.int .u64 y.root.b.1) := fun w' h => HQ2.out w' (below_ext hbp h)
                    have m1 : IntKind.i64.wrap (x.ep.1 + 1) = x.ep.1 + 1 := IntWalk.i64_in _ (by omega)
                    by_cases he : y.ep.1 = x.ep.1 + 1
                    · have het : (y.ep.1 == x.ep.1 + 1) = true := by simpa using he
                      cases hu1 : under l x.root y.root with
                      | false =>
                        have HMS := hide (any_step (p := midB l ⟨x, z.tgt⟩) HY.out HNM.out (by unfold midB; rw [hu1]; simp))
                        have HU1 := hide hu1
                        obtain ⟨u2, hu2⟩ : ∃ u2, under l y.root z.tgt.root = u2 := ⟨_, rfl⟩
                        have HU2 := hide hu2
                        clear he hu1 hu2
                        go_wp2
                        refine wp_region_held_drew (S := fun w' => Below wp.heap.size wp w') (by kernel_rfl) (below_drew wp) (fun hH => ?_)
                        refine wpAnyH_take (i := 0) (oi := { dst := some 65, op := Go.Op.move (Go.Operand.tmp 1), type := 26, pos := "ref.go:125", after := #[], guard := none }) (v := ?_) rfl (by kernel_rfl) (by kernel_rfl) (by kernel_rfl) (fun _ _ _ h => h) (Or.inl ⟨by rfl, ?hy⟩) hH ?_
                        case hy => (intro w hSw; (try dsimp only at hSw); go_simp; try with_reducible rfl)
                        try simp only [Act.put, List.setIfInBounds_toArray, List.set_cons_zero, List.set_cons_succ]
                        refine wpAnyH_take (i := 1) (oi := { dst := some 66, op := Go.Op.fieldAddr 42 (Go.Operand.tmp 9) 1, type := 0, pos := "ref.go:125", after := #[], guard := none }) (v := ?_) rfl (by kernel_rfl) (by kernel_rfl) (by kernel_rfl) (fun _ _ _ h => h) (Or.inl ⟨by rfl, ?hy⟩) hH ?_
                        case hy => (intro w hSw; (try dsimp only at hSw); go_simp; try with_reducible rfl)
                        try simp only [Act.put, List.setIfInBounds_toArray, List.set_cons_zero, List.set_cons_succ]
                        refine wpAnyH_take (i := 2) (oi := { dst := some 67, op := Go.Op.load 28 (Go.Operand.tmp 66), type := 28, pos := "ref.go:125", after := #[{ on := 1, ground := Go.Ground.data }], guard := none }) (v := ?_) rfl (by kernel_rfl) (by kernel_rfl) (by kernel_rfl) (fun _ _ _ h => h) (Or.inl ⟨by rfl, ?hy⟩) hH ?_
                        case hy => (intro w hSw; (try dsimp only at hSw); go_simp; try with_reducible rfl)
                        try simp only [Act.put, List.setIfInBounds_toArray, List.set_cons_zero, List.set_cons_succ]
                        refine wpAnyH_take (i := 3) (oi := { dst := some 68, op := Go.Op.move (Go.Operand.tmp 3), type := 49, pos := "ref.go:125", after := #[], guard := none }) (v := ?_) rfl (by kernel_rfl) (by kernel_rfl) (by kernel_rfl) (fun _ _ _ h => h) (Or.inl ⟨by rfl, ?hy⟩) hH ?_
                        case hy => (intro w hSw; (try dsimp only at hSw); go_simp; try with_reducible rfl)
                        try simp only [Act.put, List.setIfInBounds_toArray, List.set_cons_zero, List.set_cons_succ]
                        refine wpAnyH_take (i := 4) (oi := { dst := some 69, op := Go.Op.move (Go.Operand.tmp 14), type := 3, pos := "ref.go:125", after := #[], guard := none }) (v := ?_) rfl (by kernel_rfl) (by kernel_rfl) (by kernel_rfl) (fun _ _ _ h => h) (Or.inl ⟨by rfl, ?hy⟩) hH ?_
                        case hy => (intro w hSw; (try dsimp only at hSw); go_simp; try with_reducible rfl)
                        try simp only [Act.put, List.setIfInBounds_toArray, List.set_cons_zero, List.set_cons_succ]
                        refine wpAnyH_take (i := 5) (oi := { dst := some 70, op := Go.Op.indexAddr 49 (Go.Operand.tmp 68) (Go.Operand.tmp 69), type := 0, pos := "ref.go:125", after := #[{ on := 3, ground := Go.Ground.data }, { on := 4, ground := Go.Ground.data }], guard := none }) (v := ?_) rfl (by kernel_rfl) (by kernel_rfl) (by kernel_rfl) (fun _ _ _ h => h) (Or.inl ⟨by rfl, ?hy⟩) hH ?_
                        case hy => (intro w hSw; (try dsimp only at hSw); go_simp; try with_reducible rfl)
                        try simp only [Act.put, List.setIfInBounds_toArray, List.set_cons_zero, List.set_cons_succ]
                        refine wpAnyH_take (i := 6) (oi := { dst := some 71, op := Go.Op.fieldAddr 42 (Go.Operand.tmp 70) 1, type := 0, pos := "ref.go:125", after := #[{ on := 5, ground := Go.Ground.data }], guard := none }) (v := ?_) rfl (by kernel_rfl) (by kernel_rfl) (by kernel_rfl) (fun _ _ _ h => h) (Or.inl ⟨by rfl, ?hy⟩) hH ?_
                        case hy => (intro w hSw; (try dsimp only at hSw); go_simp; try with_reducible rfl)
                        try simp only [Act.put, List.setIfInBounds_toArray, List.set_cons_zero, List.set_cons_succ]
                        refine wpAnyH_take (i := 7) (oi := { dst := some 72, op := Go.Op.load 28 (Go.Operand.tmp 71), type := 28, pos := "ref.go:125", after := #[{ on := 6, ground := Go.Ground.data }], guard := none }) (v := ?_) rfl (by kernel_rfl) (by kernel_rfl) (by kernel_rfl) (fun _ _ _ h => h) (Or.inl ⟨by rfl, ?hy⟩) hH ?_
                        case hy => (intro w hSw; (try dsimp only at hSw); go_simp; try with_reducible rfl)
                        try simp only [Act.put, List.setIfInBounds_toArray, List.set_cons_zero, List.set_cons_succ]
                        refine wpAnyH_ready (rs := [8]) (by kernel_rfl) (by simp) ?_
                        refine (AllReadyH.cons (o := { dst := some 73, op := Go.Op.call { callee := Go.Callee.value (Go.Operand.func 65), args := #[Go.Operand.tmp 65, Go.Operand.tmp 67, Go.Operand.tmp 72], argTypes := #[26, 28, 28] }, type := 4, pos := "ref.go:125", after := #[{ on := 0, ground := Go.Ground.data }, { on := 2, ground := Go.Ground.data }, { on := 7, ground := Go.Ground.data }], guard := none }) rfl (fun K hK => ?_) AllReadyH.nil)
                        go_simp
                        go_at_call 65
                        refine (runder_any l vl x.root y.root _ (HS.out.after (below_then hbW hbW.size (below_ext hbp hH))) hl).mono ?_
                        rw [HU1.out]
                        rintro e wa ⟨rfl, hhwa⟩
                        try go_simp
                        refine hK.out _ _ (below_ext hH hhwa) (fun hH2 => ?_)
                        clear hK K hH
                        have hH := hH2
                        clear hH2
                        try simp only [Act.put, List.setIfInBounds_toArray, List.set_cons_zero, List.set_cons_succ]
                        refine wpAnyH_take (i := 9) (oi := { dst := some 15, op := Go.Op.assign (Go.Operand.tmp 73), type := 4, pos := "ref.go:125", after := #[{ on := 8, ground := Go.Ground.data }, { on := 8, ground := Go.Ground.chain }, { on := 0, ground := Go.Ground.phase }, { on := 1, ground := Go.Ground.phase }, { on := 2, ground := Go.Ground.phase }, { on := 3, ground := Go.Ground.phase }, { on := 4, ground := Go.Ground.phase }, { on := 5, ground := Go.Ground.phase }, { on := 6, ground := Go.Ground.phase }, { on := 7, ground := Go.Ground.phase }, { on := 8, ground := Go.Ground.phase }], guard := none }) (v := ?_) rfl (by kernel_rfl) (by kernel_rfl) (by kernel_rfl) (fun _ _ _ h => h) (Or.inl ⟨by rfl, ?hy⟩) hH ?_
                        case hy => (intro w hSw; (try dsimp only at hSw); go_simp; try with_reducible rfl)
                        try simp only [Act.put, List.setIfInBounds_toArray, List.set_cons_zero, List.set_cons_succ]
                        refine wpAnyH_done (by kernel_rfl) ?_ _
                        have hbpa := below_ext hbp hH
                        have hTa := hTp.after hH
                        clear hH hhwa x1 x2 q1 q2
                        have s1 := hTa.ext 1 rfl
                        have s2 := hTa.ext 2 rfl
                        have q1 : ∀ w', Below wa.heap.size wa w' → w'.cell? ⟨bj, offj + j * 3 + 1, none⟩ = some (.int .u64 y.root.a.1) := fun w' h => HQ1.out w' (below_ext hbpa h)
                        have q2 : ∀ w', Below wa.heap.size wa w' → w'.cell? ⟨bj, offj + j * 3 + 2, none⟩ = some (.int .u64 y.root.b.1) := fun w' h => HQ2.out w' (below_ext hbpa h)
                        go_wp2
                        refine wp_region_held_drew (S := fun w' => Below wa.heap.size wa w') (by kernel_rfl) (below_drew wa) (fun hH => ?_)
                        refine wpAnyH_take (i := 0) (oi := { dst := some 74, op := Go.Op.move (Go.Operand.tmp 1), type := 26, pos := "ref.go:126", after := #[], guard := none }) (v := ?_) rfl (by kernel_rfl) (by kernel_rfl) (by kernel_rfl) (fun _ _ _ h => h) (Or.inl ⟨by rfl, ?hy⟩) hH ?_
                        case hy => (intro w hSw; (try dsimp only at hSw); go_simp; try with_reducible rfl)
                        try simp only [Act.put, List.setIfInBounds_toArray, List.set_cons_zero, List.set_cons_succ]
                        refine wpAnyH_take (i := 1) (oi := { dst := some 75, op := Go.Op.move (Go.Operand.tmp 3), type := 49, pos := "ref.go:126", after := #[], guard := none }) (v := ?_) rfl (by kernel_rfl) (by kernel_rfl) (by kernel_rfl) (fun _ _ _ h => h) (Or.inl ⟨by rfl, ?hy⟩) hH ?_
                        case hy => (intro w hSw; (try dsimp only at hSw); go_simp; try with_reducible rfl)
                        try simp only [Act.put, List.setIfInBounds_toArray, List.set_cons_zero, List.set_cons_succ]
                        refine wpAnyH_take (i := 2) (oi := { dst := some 76, op := Go.Op.move (Go.Operand.tmp 14), type := 3, pos := "ref.go:126", after := #[], guard := none }) (v := ?_) rfl (by kernel_rfl) (by kernel_rfl) (by kernel_rfl) (fun _ _ _ h => h) (Or.inl ⟨by rfl, ?hy⟩) hH ?_
                        case hy => (intro w hSw; (try dsimp only at hSw); go_simp; try with_reducible rfl)
                        try simp only [Act.put, List.setIfInBounds_toArray, List.set_cons_zero, List.set_cons_succ]
                        refine wpAnyH_take (i := 3) (oi := { dst := some 77, op := Go.Op.indexAddr 49 (Go.Operand.tmp 75) (Go.Operand.tmp 76), type := 0, pos := "ref.go:126", after := #[{ on := 1, ground := Go.Ground.data }, { on := 2, ground := Go.Ground.data }], guard := none }) (v := ?_) rfl (by kernel_rfl) (by kernel_rfl) (by kernel_rfl) (fun _ _ _ h => h) (Or.inl ⟨by rfl, ?hy⟩) hH ?_
                        case hy => (intro w hSw; (try dsimp only at hSw); go_simp; try with_reducible rfl)
                        try simp only [Act.put, List.setIfInBounds_toArray, List.set_cons_zero, List.set_cons_succ]
                        refine wpAnyH_take (i := 4) (oi := { dst := some 78, op := Go.Op.fieldAddr 42 (Go.Operand.tmp 77) 1, type := 0, pos := "ref.go:126", after := #[{ on := 3, ground := Go.Ground.data }], guard := none }) (v := ?_) rfl (by kernel_rfl) (by kernel_rfl) (by kernel_rfl) (fun _ _ _ h => h) (Or.inl ⟨by rfl, ?hy⟩) hH ?_
                        case hy => (intro w hSw; (try dsimp only at hSw); go_simp; try with_reducible rfl)
                        try simp only [Act.put, List.setIfInBounds_toArray, List.set_cons_zero, List.set_cons_succ]
                        refine wpAnyH_take (i := 5) (oi := { dst := some 79, op := Go.Op.load 28 (Go.Operand.tmp 78), type := 28, pos := "ref.go:126", after := #[{ on := 4, ground := Go.Ground.data }], guard := none }) (v := ?_) rfl (by kernel_rfl) (by kernel_rfl) (by kernel_rfl) (fun _ _ _ h => h) (Or.inl ⟨by rfl, ?hy⟩) hH ?_
                        case hy => (intro w hSw; (try dsimp only at hSw); go_simp; try with_reducible rfl)
                        try simp only [Act.put, List.setIfInBounds_toArray, List.set_cons_zero, List.set_cons_succ]
                        refine wpAnyH_take (i := 6) (oi := { dst := some 80, op := Go.Op.fieldAddr 42 (Go.Operand.tmp 12) 1, type := 0, pos := "ref.go:126", after := #[], guard := none }) (v := ?_) rfl (by kernel_rfl) (by kernel_rfl) (by kernel_rfl) (fun _ _ _ h => h) (Or.inl ⟨by rfl, ?hy⟩) hH ?_
                        case hy => (intro w hSw; (try dsimp only at hSw); go_simp; try with_reducible rfl)
                        try simp only [Act.put, List.setIfInBounds_toArray, List.set_cons_zero, List.set_cons_succ]
                        refine wpAnyH_take (i := 7) (oi := { dst := some 81, op := Go.Op.load 28 (Go.Operand.tmp 80), type := 28, pos := "ref.go:126", after := #[{ on := 6, ground := Go.Ground.data }], guard := none }) (v := ?_) rfl (by kernel_rfl) (by kernel_rfl) (by kernel_rfl) (fun _ _ _ h => h) (Or.inl ⟨by rfl, ?hy⟩) hH ?_
                        case hy => (intro w hSw; (try dsimp only at hSw); go_simp; try with_reducible rfl)
                        try simp only [Act.put, List.setIfInBounds_toArray, List.set_cons_zero, List.set_cons_succ]
                        refine wpAnyH_ready (rs := [8]) (by kernel_rfl) (by simp) ?_
                        refine (AllReadyH.cons (o := { dst := some 82, op := Go.Op.call { callee := Go.Callee.value (Go.Operand.func 65), args := #[Go.Operand.tmp 74, Go.Operand.tmp 79, Go.Operand.tmp 81], argTypes := #[26, 28, 28] }, type := 4, pos := "ref.go:126", after := #[{ on := 0, ground := Go.Ground.data }, { on := 5, ground := Go.Ground.data }, { on := 7, ground := Go.Ground.data }], guard := none }) rfl (fun K hK => ?_) AllReadyH.nil)
                        go_simp
                        go_at_call 65
                        refine (runder_any l vl y.root z.tgt.root _ (HS.out.after (below_then hbW hbW.size (below_ext hbpa hH))) hl).mono ?_
                        rw [HU2.out]
                        rintro e wb ⟨rfl, hhwb⟩
                        try go_simp
                        refine hK.out _ _ (below_ext hH hhwb) (fun hH2 => ?_)
                        clear hK K hH
                        have hH := hH2
                        clear hH2
                        try simp only [Act.put, List.setIfInBounds_toArray, List.set_cons_zero, List.set_cons_succ]
                        refine wpAnyH_take (i := 9) (oi := { dst := some 16, op := Go.Op.assign (Go.Operand.tmp 82), type := 4, pos := "ref.go:126", after := #[{ on := 8, ground := Go.Ground.data }, { on := 8, ground := Go.Ground.chain }, { on := 0, ground := Go.Ground.phase }, { on := 1, ground := Go.Ground.phase }, { on := 2, ground := Go.Ground.phase }, { on := 3, ground := Go.Ground.phase }, { on := 4, ground := Go.Ground.phase }, { on := 5, ground := Go.Ground.phase }, { on := 6, ground := Go.Ground.phase }, { on := 7, ground := Go.Ground.phase }, { on := 8, ground := Go.Ground.phase }], guard := none }) (v := ?_) rfl (by kernel_rfl) (by kernel_rfl) (by kernel_rfl) (fun _ _ _ h => h) (Or.inl ⟨by rfl, ?hy⟩) hH ?_
                        case hy => (intro w hSw; (try dsimp only at hSw); go_simp; try with_reducible rfl)
                        try simp only [Act.put, List.setIfInBounds_toArray, List.set_cons_zero, List.set_cons_succ]
                        refine wpAnyH_done (by kernel_rfl) ?_ _
                        have hbpb := below_ext hbpa hH
                        have hTb := hTa.after hH
                        clear hH hhwb s1 s2 q1 q2
                        have hXb := hX.after hbpb
                        have x0 := hXb.ext 0 rfl
                        have q0 : ∀ w', Below wb.heap.size wb w' → w'.cell? ⟨bj, offj + j * 3, none⟩ = some (.int .i64 y.ep.1) := fun w' h => HQ0.out w' (below_ext hbpb h)
                        go_wp2
                        refine wp_region_held_drew (S := fun w' => Below wb.heap.size wb w') (by kernel_rfl) (below_drew wb) (fun hH => ?_)
                        refine wpAnyH_take (i := 0) (oi := { dst := some 83, op := Go.Op.move (Go.Operand.tmp 3), type := 49, pos := "ref.go:127", after := #[], guard := none }) (v := ?_) rfl (by kernel_rfl) (by kernel_rfl) (by kernel_rfl) (fun _ _ _ h => h) (Or.inl ⟨by rfl, ?hy⟩) hH ?_
                        case hy => (intro w hSw; (try dsimp only at hSw); go_simp; try with_reducible rfl)
                        try simp only [Act.put, List.setIfInBounds_toArray, List.set_cons_zero, List.set_cons_succ]
                        refine wpAnyH_take (i := 1) (oi := { dst := some 84, op := Go.Op.move (Go.Operand.tmp 14), type := 3, pos := "ref.go:127", after := #[], guard := none }) (v := ?_) rfl (by kernel_rfl) (by kernel_rfl) (by kernel_rfl) (fun _ _ _ h => h) (Or.inl ⟨by rfl, ?hy⟩) hH ?_
                        case hy => (intro w hSw; (try dsimp only at hSw); go_simp; try with_reducible rfl)
                        try simp only [Act.put, List.setIfInBounds_toArray, List.set_cons_zero, List.set_cons_succ]
                        refine wpAnyH_take (i := 2) (oi := { dst := some 85, op := Go.Op.indexAddr 49 (Go.Operand.tmp 83) (Go.Operand.tmp 84), type := 0, pos := "ref.go:127", after := #[{ on := 0, ground := Go.Ground.data }, { on := 1, ground := Go.Ground.data }], guard := none }) (v := ?_) rfl (by kernel_rfl) (by kernel_rfl) (by kernel_rfl) (fun _ _ _ h => h) (Or.inl ⟨by rfl, ?hy⟩) hH ?_
                        case hy => (intro w hSw; (try dsimp only at hSw); go_simp; try with_reducible rfl)
                        try simp only [Act.put, List.setIfInBounds_toArray, List.set_cons_zero, List.set_cons_succ]
                        refine wpAnyH_take (i := 3) (oi := { dst := some 86, op := Go.Op.fieldAddr 42 (Go.Operand.tmp 85) 0, type := 0, pos := "ref.go:127", after := #[{ on := 2, ground := Go.Ground.data }], guard := none }) (v := ?_) rfl (by kernel_rfl) (by kernel_rfl) (by kernel_rfl) (fun _ _ _ h => h) (Or.inl ⟨by rfl, ?hy⟩) hH ?_
                        case hy => (intro w hSw; (try dsimp only at hSw); go_simp; try with_reducible rfl)
                        try simp only [Act.put, List.setIfInBounds_toArray, List.set_cons_zero, List.set_cons_succ]
                        refine wpAnyH_take (i := 4) (oi := { dst := some 87, op := Go.Op.load 3 (Go.Operand.tmp 86), type := 3, pos := "ref.go:127", after := #[{ on := 3, ground := Go.Ground.data }], guard := none }) (v := ?_) rfl (by kernel_rfl) (by kernel_rfl) (by kernel_rfl) (fun _ _ _ h => h) (Or.inl ⟨by rfl, ?hy⟩) hH ?_
                        case hy => (intro w hSw; (try dsimp only at hSw); go_simp; try with_reducible rfl)
                        try simp only [Act.put, List.setIfInBounds_toArray, List.set_cons_zero, List.set_cons_succ]
                        refine wpAnyH_take (i := 5) (oi := { dst := some 88, op := Go.Op.fieldAddr 42 (Go.Operand.tmp 9) 0, type := 0, pos := "ref.go:127", after := #[], guard := none }) (v := ?_) rfl (by kernel_rfl) (by kernel_rfl) (by kernel_rfl) (fun _ _ _ h => h) (Or.inl ⟨by rfl, ?hy⟩) hH ?_
                        case hy => (intro w hSw; (try dsimp only at hSw); go_simp; try with_reducible rfl)
                        try simp only [Act.put, List.setIfInBounds_toArray, List.set_cons_zero, List.set_cons_succ]
                        refine wpAnyH_take (i := 6) (oi := { dst := some 89, op := Go.Op.load 3 (Go.Operand.tmp 88), type := 3, pos := "ref.go:127", after := #[{ on := 5, ground := Go.Ground.data }], guard := none }) (v := ?_) rfl (by kernel_rfl) (by kernel_rfl) (by kernel_rfl) (fun _ _ _ h => h) (Or.inl ⟨by rfl, ?hy⟩) hH ?_
                        case hy => (intro w hSw; (try dsimp only at hSw); go_simp; try with_reducible rfl)
                        try simp only [Act.put, List.setIfInBounds_toArray, List.set_cons_zero, List.set_cons_succ]
                        refine wpAnyH_take (i := 7) (oi := { dst := some 90, op := Go.Op.binOp Go.BinOp.add 3 (Go.Operand.tmp 89) (Go.Operand.const (Go.Value.int Go.IntKind.i64 1)) 3, type := 3, pos := "ref.go:127", after := #[{ on := 6, ground := Go.Ground.data }], guard := none }) (v := ?_) rfl (by kernel_rfl) (by kernel_rfl) (by kernel_rfl) (fun _ _ _ h => h) (Or.inl ⟨by rfl, ?hy⟩) hH ?_
                        case hy => (intro w hSw; (try dsimp only at hSw); go_simp; try with_reducible rfl)
                        try simp only [Act.put, List.setIfInBounds_toArray, List.set_cons_zero, List.set_cons_succ]
                        refine wpAnyH_take (i := 8) (oi := { dst := some 91, op := Go.Op.binOp Go.BinOp.eql 3 (Go.Operand.tmp 87) (Go.Operand.tmp 90) 3, type := 4, pos := "ref.go:127", after := #[{ on := 4, ground := Go.Ground.data }, { on := 7, ground := Go.Ground.data }], guard := none }) (v := ?_) rfl (by kernel_rfl) (by kernel_rfl) (by kernel_rfl) (fun _ _ _ h => h) (Or.inl ⟨by rfl, ?hy⟩) hH ?_
                        case hy => (intro w hSw; (try dsimp only at hSw); go_simp; try with_reducible rfl)
                        try simp only [Act.put, List.setIfInBounds_toArray, List.set_cons_zero, List.set_cons_succ]
                        refine wpAnyH_take (i := 9) (oi := { dst := some 92, op := Go.Op.move (Go.Operand.tmp 91), type := 4, pos := "ref.go:127", after := #[{ on := 8, ground := Go.Ground.data }], guard := none }) (v := ?_) rfl (by kernel_rfl) (by kernel_rfl) (by kernel_rfl) (fun _ _ _ h => h) (Or.inl ⟨by rfl, ?hy⟩) hH ?_
                        case hy => (intro w hSw; (try dsimp only at hSw); go_simp; try with_reducible rfl)
                        try simp only [Act.put, List.setIfInBounds_toArray, List.set_cons_zero, List.set_cons_succ]
                        refine wpAnyH_take (i := 10) (oi := { dst := some 93, op := Go.Op.move (Go.Operand.tmp 15), type := 4, pos := "ref.go:127", after := #[{ on := 9, ground := Go.Ground.guard }], guard := some (9, true) }) (v := ?_) rfl (by kernel_rfl) (by kernel_rfl) (by kernel_rfl) (fun _ _ _ h => h) (Or.inl ⟨by rfl, ?hy⟩) hH ?_
                        case hy => (intro w hSw; (try dsimp only at hSw); go_simp; try with_reducible rfl)
                        try simp only [Act.put, List.setIfInBounds_toArray, List.set_cons_zero, List.set_cons_succ]
                        refine wpAnyH_take (i := 11) (oi := { dst := some 94, op := Go.Op.pick (Go.Operand.tmp 92) (Go.Operand.tmp 93) (Go.Operand.const (Go.Value.bool false)), type := 4, pos := "ref.go:127", after := #[{ on := 9, ground := Go.Ground.data }, { on := 10, ground := Go.Ground.data }], guard := none }) (v := ?_) rfl (by kernel_rfl) (by kernel_rfl) (by kernel_rfl) (fun _ _ _ h => h) (Or.inl ⟨by rfl, ?hy⟩) hH ?_
                        case hy => (intro w hSw; (try dsimp only at hSw); go_simp; try with_reducible rfl)
                        try simp only [Act.put, List.setIfInBounds_toArray, List.set_cons_zero, List.set_cons_succ]
                        refine wpAnyH_take (i := 12) (oi := { dst := some 95, op := Go.Op.move (Go.Operand.tmp 94), type := 4, pos := "ref.go:127", after := #[{ on := 11, ground := Go.Ground.data }, { on := 9, ground := Go.Ground.chain }], guard := none }) (v := ?_) rfl (by kernel_rfl) (by kernel_rfl) (by kernel_rfl) (fun _ _ _ h => h) (Or.inl ⟨by rfl, ?hy⟩) hH ?_
                        case hy => (intro w hSw; (try dsimp only at hSw); go_simp; try with_reducible rfl)
                        try simp only [Act.put, List.setIfInBounds_toArray, List.set_cons_zero, List.set_cons_succ]
                        refine wpAnyH_take (i := 13) (oi := { dst := some 96, op := Go.Op.move (Go.Operand.tmp 16), type := 4, pos := "ref.go:127", after := #[{ on := 12, ground := Go.Ground.guard }], guard := some (12, true) }) (v := undef) rfl (by kernel_rfl) (by kernel_rfl) (by kernel_rfl) (fun _ _ _ h => h) (Or.inr ⟨by rfl, rfl⟩) hH ?_
                        try simp only [Act.put, List.setIfInBounds_toArray, List.set_cons_zero, List.set_cons_succ]
                        refine wpAnyH_take (i := 14) (oi := { dst := some 97, op := Go.Op.pick (Go.Operand.tmp 95) (Go.Operand.tmp 96) (Go.Operand.const (Go.Value.bool false)), type := 4, pos := "ref.go:127", after := #[{ on := 12, ground := Go.Ground.data }, { on := 13, ground := Go.Ground.data }], guard := none }) (v := ?_) rfl (by kernel_rfl) (by kernel_rfl) (by kernel_rfl) (fun _ _ _ h => h) (Or.inl ⟨by rfl, ?hy⟩) hH ?_
                        case hy => (intro w hSw; (try dsimp only at hSw); go_simp; try with_reducible rfl)
                        try simp only [Act.put, List.setIfInBounds_toArray, List.set_cons_zero, List.set_cons_succ]
                        refine wpAnyH_done (by kernel_rfl) ?_ _
                        have hbz := below_ext hbpb hH
                        have hTz := hTb.after hH
                        clear hH x0 q0
                        go_wp2
                        go_roundw
                        case rel => exact ⟨j + 1, by omega, by go_num, HMS.out, hbz, hTz⟩
                        case measure => simp [intOf]; omega
                      | true =>
                        have HU1 := hide hu1
                        cases hu2 : under l y.root z.tgt.root with
                        | false =>
                          have HMS := hide (any_step (p := midB l ⟨x, z.tgt⟩) HY.out HNM.out (by unfold midB; rw [hu2]; simp))
                          have HU2 := hide hu2
                          clear he hu1 hu2
                          go_wp2
                          refine wp_region_held_drew (S := fun w' => Below wp.heap.size wp w') (by kernel_rfl) (below_drew wp) (fun hH => ?_)
                          refine wpAnyH_take (i := 0) (oi := { dst := some 65, op := Go.Op.move (Go.Operand.tmp 1), type := 26, pos := "ref.go:125", after := #[], guard := none }) (v := ?_) rfl (by kernel_rfl) (by kernel_rfl) (by kernel_rfl) (fun _ _ _ h => h) (Or.inl ⟨by rfl, ?hy⟩) hH ?_
                          case hy => (intro w hSw; (try dsimp only at hSw); go_simp; try with_reducible rfl)
                          try simp only [Act.put, List.setIfInBounds_toArray, List.set_cons_zero, List.set_cons_succ]
                          refine wpAnyH_take (i := 1) (oi := { dst := some 66, op := Go.Op.fieldAddr 42 (Go.Operand.tmp 9) 1, type := 0, pos := "ref.go:125", after := #[], guard := none }) (v := ?_) rfl (by kernel_rfl) (by kernel_rfl) (by kernel_rfl) (fun _ _ _ h => h) (Or.inl ⟨by rfl, ?hy⟩) hH ?_
                          case hy => (intro w hSw; (try dsimp only at hSw); go_simp; try with_reducible rfl)
                          try simp only [Act.put, List.setIfInBounds_toArray, List.set_cons_zero, List.set_cons_succ]
                          refine wpAnyH_take (i := 2) (oi := { dst := some 67, op := Go.Op.load 28 (Go.Operand.tmp 66), type := 28, pos := "ref.go:125", after := #[{ on := 1, ground := Go.Ground.data }], guard := none }) (v := ?_) rfl (by kernel_rfl) (by kernel_rfl) (by kernel_rfl) (fun _ _ _ h => h) (Or.inl ⟨by rfl, ?hy⟩) hH ?_
                          case hy => (intro w hSw; (try dsimp only at hSw); go_simp; try with_reducible rfl)
                          try simp only [Act.put, List.setIfInBounds_toArray, List.set_cons_zero, List.set_cons_succ]
                          refine wpAnyH_take (i := 3) (oi := { dst := some 68, op := Go.Op.move (Go.Operand.tmp 3), type := 49, pos := "ref.go:125", after := #[], guard := none }) (v := ?_) rfl (by kernel_rfl) (by kernel_rfl) (by kernel_rfl) (fun _ _ _ h => h) (Or.inl ⟨by rfl, ?hy⟩) hH ?_
                          case hy => (intro w hSw; (try dsimp only at hSw); go_simp; try with_reducible rfl)
                          try simp only [Act.put, List.setIfInBounds_toArray, List.set_cons_zero, List.set_cons_succ]
                          refine wpAnyH_take (i := 4) (oi := { dst := some 69, op := Go.Op.move (Go.Operand.tmp 14), type := 3, pos := "ref.go:125", after := #[], guard := none }) (v := ?_) rfl (by kernel_rfl) (by kernel_rfl) (by kernel_rfl) (fun _ _ _ h => h) (Or.inl ⟨by rfl, ?hy⟩) hH ?_
                          case hy => (intro w hSw; (try dsimp only at hSw); go_simp; try with_reducible rfl)
                          try simp only [Act.put, List.setIfInBounds_toArray, List.set_cons_zero, List.set_cons_succ]
                          refine wpAnyH_take (i := 5) (oi := { dst := some 70, op := Go.Op.indexAddr 49 (Go.Operand.tmp 68) (Go.Operand.tmp 69), type := 0, pos := "ref.go:125", after := #[{ on := 3, ground := Go.Ground.data }, { on := 4, ground := Go.Ground.data }], guard := none }) (v := ?_) rfl (by kernel_rfl) (by kernel_rfl) (by kernel_rfl) (fun _ _ _ h => h) (Or.inl ⟨by rfl, ?hy⟩) hH ?_
                          case hy => (intro w hSw; (try dsimp only at hSw); go_simp; try with_reducible rfl)
                          try simp only [Act.put, List.setIfInBounds_toArray, List.set_cons_zero, List.set_cons_succ]
                          refine wpAnyH_take (i := 6) (oi := { dst := some 71, op := Go.Op.fieldAddr 42 (Go.Operand.tmp 70) 1, type := 0, pos := "ref.go:125", after := #[{ on := 5, ground := Go.Ground.data }], guard := none }) (v := ?_) rfl (by kernel_rfl) (by kernel_rfl) (by kernel_rfl) (fun _ _ _ h => h) (Or.inl ⟨by rfl, ?hy⟩) hH ?_
                          case hy => (intro w hSw; (try dsimp only at hSw); go_simp; try with_reducible rfl)
                          try simp only [Act.put, List.setIfInBounds_toArray, List.set_cons_zero, List.set_cons_succ]
                          refine wpAnyH_take (i := 7) (oi := { dst := some 72, op := Go.Op.load 28 (Go.Operand.tmp 71), type := 28, pos := "ref.go:125", after := #[{ on := 6, ground := Go.Ground.data }], guard := none }) (v := ?_) rfl (by kernel_rfl) (by kernel_rfl) (by kernel_rfl) (fun _ _ _ h => h) (Or.inl ⟨by rfl, ?hy⟩) hH ?_
                          case hy => (intro w hSw; (try dsimp only at hSw); go_simp; try with_reducible rfl)
                          try simp only [Act.put, List.setIfInBounds_toArray, List.set_cons_zero, List.set_cons_succ]
                          refine wpAnyH_ready (rs := [8]) (by kernel_rfl) (by simp) ?_
                          refine (AllReadyH.cons (o := { dst := some 73, op := Go.Op.call { callee := Go.Callee.value (Go.Operand.func 65), args := #[Go.Operand.tmp 65, Go.Operand.tmp 67, Go.Operand.tmp 72], argTypes := #[26, 28, 28] }, type := 4, pos := "ref.go:125", after := #[{ on := 0, ground := Go.Ground.data }, { on := 2, ground := Go.Ground.data }, { on := 7, ground := Go.Ground.data }], guard := none }) rfl (fun K hK => ?_) AllReadyH.nil)
                          go_simp
                          go_at_call 65
                          refine (runder_any l vl x.root y.root _ (HS.out.after (below_then hbW hbW.size (below_ext hbp hH))) hl).mono ?_
                          rw [HU1.out]
                          rintro e wa ⟨rfl, hhwa⟩
                          try go_simp
                          refine hK.out _ _ (below_ext hH hhwa) (fun hH2 => ?_)
                          clear hK K hH
                          have hH := hH2
                          clear hH2
                          try simp only [Act.put, List.setIfInBounds_toArray, List.set_cons_zero, List.set_cons_succ]
                          refine wpAnyH_take (i := 9) (oi := { dst := some 15, op := Go.Op.assign (Go.Operand.tmp 73), type := 4, pos := "ref.go:125", after := #[{ on := 8, ground := Go.Ground.data }, { on := 8, ground := Go.Ground.chain }, { on := 0, ground := Go.Ground.phase }, { on := 1, ground := Go.Ground.phase }, { on := 2, ground := Go.Ground.phase }, { on := 3, ground := Go.Ground.phase }, { on := 4, ground := Go.Ground.phase }, { on := 5, ground := Go.Ground.phase }, { on := 6, ground := Go.Ground.phase }, { on := 7, ground := Go.Ground.phase }, { on := 8, ground := Go.Ground.phase }], guard := none }) (v := ?_) rfl (by kernel_rfl) (by kernel_rfl) (by kernel_rfl) (fun _ _ _ h => h) (Or.inl ⟨by rfl, ?hy⟩) hH ?_
                          case hy => (intro w hSw; (try dsimp only at hSw); go_simp; try with_reducible rfl)
                          try simp only [Act.put, List.setIfInBounds_toArray, List.set_cons_zero, List.set_cons_succ]
                          refine wpAnyH_done (by kernel_rfl) ?_ _
                          have hbpa := below_ext hbp hH
                          have hTa := hTp.after hH
                          clear hH hhwa x1 x2 q1 q2
                          have s1 := hTa.ext 1 rfl
                          have s2 := hTa.ext 2 rfl
                          have q1 : ∀ w', Below wa.heap.size wa w' → w'.cell? ⟨bj, offj + j * 3 + 1, none⟩ = some (.int .u64 y.root.a.1) := fun w' h => HQ1.out w' (below_ext hbpa h)
                          have q2 : ∀ w', Below wa.heap.size wa w' → w'.cell? ⟨bj, offj + j * 3 + 2, none⟩ = some (.int .u64 y.root.b.1) := fun w' h => HQ2.out w' (below_ext hbpa h)
                          go_wp2
                          refine wp_region_held_drew (S := fun w' => Below wa.heap.size wa w') (by kernel_rfl) (below_drew wa) (fun hH => ?_)
                          refine wpAnyH_take (i := 0) (oi := { dst := some 74, op := Go.Op.move (Go.Operand.tmp 1), type := 26, pos := "ref.go:126", after := #[], guard := none }) (v := ?_) rfl (by kernel_rfl) (by kernel_rfl) (by kernel_rfl) (fun _ _ _ h => h) (Or.inl ⟨by rfl, ?hy⟩) hH ?_
                          case hy => (intro w hSw; (try dsimp only at hSw); go_simp; try with_reducible rfl)
                          try simp only [Act.put, List.setIfInBounds_toArray, List.set_cons_zero, List.set_cons_succ]
                          refine wpAnyH_take (i := 1) (oi := { dst := some 75, op := Go.Op.move (Go.Operand.tmp 3), type := 49, pos := "ref.go:126", after := #[], guard := none }) (v := ?_) rfl (by kernel_rfl) (by kernel_rfl) (by kernel_rfl) (fun _ _ _ h => h) (Or.inl ⟨by rfl, ?hy⟩) hH ?_
                          case hy => (intro w hSw; (try dsimp only at hSw); go_simp; try with_reducible rfl)
                          try simp only [Act.put, List.setIfInBounds_toArray, List.set_cons_zero, List.set_cons_succ]
                          refine wpAnyH_take (i := 2) (oi := { dst := some 76, op := Go.Op.move (Go.Operand.tmp 14), type := 3, pos := "ref.go:126", after := #[], guard := none }) (v := ?_) rfl (by kernel_rfl) (by kernel_rfl) (by kernel_rfl) (fun _ _ _ h => h) (Or.inl ⟨by rfl, ?hy⟩) hH ?_
                          case hy => (intro w hSw; (try dsimp only at hSw); go_simp; try with_reducible rfl)
                          try simp only [Act.put, List.setIfInBounds_toArray, List.set_cons_zero, List.set_cons_succ]
                          refine wpAnyH_take (i := 3) (oi := { dst := some 77, op := Go.Op.indexAddr 49 (Go.Operand.tmp 75) (Go.Operand.tmp 76), type := 0, pos := "ref.go:126", after := #[{ on := 1, ground := Go.Ground.data }, { on := 2, ground := Go.Ground.data }], guard := none }) (v := ?_) rfl (by kernel_rfl) (by kernel_rfl) (by kernel_rfl) (fun _ _ _ h => h) (Or.inl ⟨by rfl, ?hy⟩) hH ?_
                          case hy => (intro w hSw; (try dsimp only at hSw); go_simp; try with_reducible rfl)
                          try simp only [Act.put, List.setIfInBounds_toArray, List.set_cons_zero, List.set_cons_succ]
                          refine wpAnyH_take (i := 4) (oi := { dst := some 78, op := Go.Op.fieldAddr 42 (Go.Operand.tmp 77) 1, type := 0, pos := "ref.go:126", after := #[{ on := 3, ground := Go.Ground.data }], guard := none }) (v := ?_) rfl (by kernel_rfl) (by kernel_rfl) (by kernel_rfl) (fun _ _ _ h => h) (Or.inl ⟨by rfl, ?hy⟩) hH ?_
                          case hy => (intro w hSw; (try dsimp only at hSw); go_simp; try with_reducible rfl)
                          try simp only [Act.put, List.setIfInBounds_toArray, List.set_cons_zero, List.set_cons_succ]
                          refine wpAnyH_take (i := 5) (oi := { dst := some 79, op := Go.Op.load 28 (Go.Operand.tmp 78), type := 28, pos := "ref.go:126", after := #[{ on := 4, ground := Go.Ground.data }], guard := none }) (v := ?_) rfl (by kernel_rfl) (by kernel_rfl) (by kernel_rfl) (fun _ _ _ h => h) (Or.inl ⟨by rfl, ?hy⟩) hH ?_
                          case hy => (intro w hSw; (try dsimp only at hSw); go_simp; try with_reducible rfl)
                          try simp only [Act.put, List.setIfInBounds_toArray, List.set_cons_zero, List.set_cons_succ]
                          refine wpAnyH_take (i := 6) (oi := { dst := some 80, op := Go.Op.fieldAddr 42 (Go.Operand.tmp 12) 1, type := 0, pos := "ref.go:126", after := #[], guard := none }) (v := ?_) rfl (by kernel_rfl) (by kernel_rfl) (by kernel_rfl) (fun _ _ _ h => h) (Or.inl ⟨by rfl, ?hy⟩) hH ?_
                          case hy => (intro w hSw; (try dsimp only at hSw); go_simp; try with_reducible rfl)
                          try simp only [Act.put, List.setIfInBounds_toArray, List.set_cons_zero, List.set_cons_succ]
                          refine wpAnyH_take (i := 7) (oi := { dst := some 81, op := Go.Op.load 28 (Go.Operand.tmp 80), type := 28, pos := "ref.go:126", after := #[{ on := 6, ground := Go.Ground.data }], guard := none }) (v := ?_) rfl (by kernel_rfl) (by kernel_rfl) (by kernel_rfl) (fun _ _ _ h => h) (Or.inl ⟨by rfl, ?hy⟩) hH ?_
                          case hy => (intro w hSw; (try dsimp only at hSw); go_simp; try with_reducible rfl)
                          try simp only [Act.put, List.setIfInBounds_toArray, List.set_cons_zero, List.set_cons_succ]
                          refine wpAnyH_ready (rs := [8]) (by kernel_rfl) (by simp) ?_
                          refine (AllReadyH.cons (o := { dst := some 82, op := Go.Op.call { callee := Go.Callee.value (Go.Operand.func 65), args := #[Go.Operand.tmp 74, Go.Operand.tmp 79, Go.Operand.tmp 81], argTypes := #[26, 28, 28] }, type := 4, pos := "ref.go:126", after := #[{ on := 0, ground := Go.Ground.data }, { on := 5, ground := Go.Ground.data }, { on := 7, ground := Go.Ground.data }], guard := none }) rfl (fun K hK => ?_) AllReadyH.nil)
                          go_simp
                          go_at_call 65
                          refine (runder_any l vl y.root z.tgt.root _ (HS.out.after (below_then hbW hbW.size (below_ext hbpa hH))) hl).mono ?_
                          rw [HU2.out]
                          rintro e wb ⟨rfl, hhwb⟩
                          try go_simp
                          refine hK.out _ _ (below_ext hH hhwb) (fun hH2 => ?_)
                          clear hK K hH
                          have hH := hH2
                          clear hH2
                          try simp only [Act.put, List.setIfInBounds_toArray, List.set_cons_zero, List.set_cons_succ]
                          refine wpAnyH_take (i := 9) (oi := { dst := some 16, op := Go.Op.assign (Go.Operand.tmp 82), type := 4, pos := "ref.go:126", after := #[{ on := 8, ground := Go.Ground.data }, { on := 8, ground := Go.Ground.chain }, { on := 0, ground := Go.Ground.phase }, { on := 1, ground := Go.Ground.phase }, { on := 2, ground := Go.Ground.phase }, { on := 3, ground := Go.Ground.phase }, { on := 4, ground := Go.Ground.phase }, { on := 5, ground := Go.Ground.phase }, { on := 6, ground := Go.Ground.phase }, { on := 7, ground := Go.Ground.phase }, { on := 8, ground := Go.Ground.phase }], guard := none }) (v := ?_) rfl (by kernel_rfl) (by kernel_rfl) (by kernel_rfl) (fun _ _ _ h => h) (Or.inl ⟨by rfl, ?hy⟩) hH ?_
                          case hy => (intro w hSw; (try dsimp only at hSw); go_simp; try with_reducible rfl)
                          try simp only [Act.put, List.setIfInBounds_toArray, List.set_cons_zero, List.set_cons_succ]
                          refine wpAnyH_done (by kernel_rfl) ?_ _
                          have hbpb := below_ext hbpa hH
                          have hTb := hTa.after hH
                          clear hH hhwb s1 s2 q1 q2
                          have hXb := hX.after hbpb
                          have x0 := hXb.ext 0 rfl
                          have q0 : ∀ w', Below wb.heap.size wb w' → w'.cell? ⟨bj, offj + j * 3, none⟩ = some (.int .i64 y.ep.1) := fun w' h => HQ0.out w' (below_ext hbpb h)
                          go_wp2
                          refine wp_region_held_drew (S := fun w' => Below wb.heap.size wb w') (by kernel_rfl) (below_drew wb) (fun hH => ?_)
                          refine wpAnyH_take (i := 0) (oi := { dst := some 83, op := Go.Op.move (Go.Operand.tmp 3), type := 49, pos := "ref.go:127", after := #[], guard := none }) (v := ?_) rfl (by kernel_rfl) (by kernel_rfl) (by kernel_rfl) (fun _ _ _ h => h) (Or.inl ⟨by rfl, ?hy⟩) hH ?_
                          case hy => (intro w hSw; (try dsimp only at hSw); go_simp; try with_reducible rfl)
                          try simp only [Act.put, List.setIfInBounds_toArray, List.set_cons_zero, List.set_cons_succ]
                          refine wpAnyH_take (i := 1) (oi := { dst := some 84, op := Go.Op.move (Go.Operand.tmp 14), type := 3, pos := "ref.go:127", after := #[], guard := none }) (v := ?_) rfl (by kernel_rfl) (by kernel_rfl) (by kernel_rfl) (fun _ _ _ h => h) (Or.inl ⟨by rfl, ?hy⟩) hH ?_
                          case hy => (intro w hSw; (try dsimp only at hSw); go_simp; try with_reducible rfl)
                          try simp only [Act.put, List.setIfInBounds_toArray, List.set_cons_zero, List.set_cons_succ]
                          refine wpAnyH_take (i := 2) (oi := { dst := some 85, op := Go.Op.indexAddr 49 (Go.Operand.tmp 83) (Go.Operand.tmp 84), type := 0, pos := "ref.go:127", after := #[{ on := 0, ground := Go.Ground.data }, { on := 1, ground := Go.Ground.data }], guard := none }) (v := ?_) rfl (by kernel_rfl) (by kernel_rfl) (by kernel_rfl) (fun _ _ _ h => h) (Or.inl ⟨by rfl, ?hy⟩) hH ?_
                          case hy => (intro w hSw; (try dsimp only at hSw); go_simp; try with_reducible rfl)
                          try simp only [Act.put, List.setIfInBounds_toArray, List.set_cons_zero, List.set_cons_succ]
                          refine wpAnyH_take (i := 3) (oi := { dst := some 86, op := Go.Op.fieldAddr 42 (Go.Operand.tmp 85) 0, type := 0, pos := "ref.go:127", after := #[{ on := 2, ground := Go.Ground.data }], guard := none }) (v := ?_) rfl (by kernel_rfl) (by kernel_rfl) (by kernel_rfl) (fun _ _ _ h => h) (Or.inl ⟨by rfl, ?hy⟩) hH ?_
                          case hy => (intro w hSw; (try dsimp only at hSw); go_simp; try with_reducible rfl)
                          try simp only [Act.put, List.setIfInBounds_toArray, List.set_cons_zero, List.set_cons_succ]
                          refine wpAnyH_take (i := 4) (oi := { dst := some 87, op := Go.Op.load 3 (Go.Operand.tmp 86), type := 3, pos := "ref.go:127", after := #[{ on := 3, ground := Go.Ground.data }], guard := none }) (v := ?_) rfl (by kernel_rfl) (by kernel_rfl) (by kernel_rfl) (fun _ _ _ h => h) (Or.inl ⟨by rfl, ?hy⟩) hH ?_
                          case hy => (intro w hSw; (try dsimp only at hSw); go_simp; try with_reducible rfl)
                          try simp only [Act.put, List.setIfInBounds_toArray, List.set_cons_zero, List.set_cons_succ]
                          refine wpAnyH_take (i := 5) (oi := { dst := some 88, op := Go.Op.fieldAddr 42 (Go.Operand.tmp 9) 0, type := 0, pos := "ref.go:127", after := #[], guard := none }) (v := ?_) rfl (by kernel_rfl) (by kernel_rfl) (by kernel_rfl) (fun _ _ _ h => h) (Or.inl ⟨by rfl, ?hy⟩) hH ?_
                          case hy => (intro w hSw; (try dsimp only at hSw); go_simp; try with_reducible rfl)
                          try simp only [Act.put, List.setIfInBounds_toArray, List.set_cons_zero, List.set_cons_succ]
                          refine wpAnyH_take (i := 6) (oi := { dst := some 89, op := Go.Op.load 3 (Go.Operand.tmp 88), type := 3, pos := "ref.go:127", after := #[{ on := 5, ground := Go.Ground.data }], guard := none }) (v := ?_) rfl (by kernel_rfl) (by kernel_rfl) (by kernel_rfl) (fun _ _ _ h => h) (Or.inl ⟨by rfl, ?hy⟩) hH ?_
                          case hy => (intro w hSw; (try dsimp only at hSw); go_simp; try with_reducible rfl)
                          try simp only [Act.put, List.setIfInBounds_toArray, List.set_cons_zero, List.set_cons_succ]
                          refine wpAnyH_take (i := 7) (oi := { dst := some 90, op := Go.Op.binOp Go.BinOp.add 3 (Go.Operand.tmp 89) (Go.Operand.const (Go.Value.int Go.IntKind.i64 1)) 3, type := 3, pos := "ref.go:127", after := #[{ on := 6, ground := Go.Ground.data }], guard := none }) (v := ?_) rfl (by kernel_rfl) (by kernel_rfl) (by kernel_rfl) (fun _ _ _ h => h) (Or.inl ⟨by rfl, ?hy⟩) hH ?_
                          case hy => (intro w hSw; (try dsimp only at hSw); go_simp; try with_reducible rfl)
                          try simp only [Act.put, List.setIfInBounds_toArray, List.set_cons_zero, List.set_cons_succ]
                          refine wpAnyH_take (i := 8) (oi := { dst := some 91, op := Go.Op.binOp Go.BinOp.eql 3 (Go.Operand.tmp 87) (Go.Operand.tmp 90) 3, type := 4, pos := "ref.go:127", after := #[{ on := 4, ground := Go.Ground.data }, { on := 7, ground := Go.Ground.data }], guard := none }) (v := ?_) rfl (by kernel_rfl) (by kernel_rfl) (by kernel_rfl) (fun _ _ _ h => h) (Or.inl ⟨by rfl, ?hy⟩) hH ?_
                          case hy => (intro w hSw; (try dsimp only at hSw); go_simp; try with_reducible rfl)
                          try simp only [Act.put, List.setIfInBounds_toArray, List.set_cons_zero, List.set_cons_succ]
                          refine wpAnyH_take (i := 9) (oi := { dst := some 92, op := Go.Op.move (Go.Operand.tmp 91), type := 4, pos := "ref.go:127", after := #[{ on := 8, ground := Go.Ground.data }], guard := none }) (v := ?_) rfl (by kernel_rfl) (by kernel_rfl) (by kernel_rfl) (fun _ _ _ h => h) (Or.inl ⟨by rfl, ?hy⟩) hH ?_
                          case hy => (intro w hSw; (try dsimp only at hSw); go_simp; try with_reducible rfl)
                          try simp only [Act.put, List.setIfInBounds_toArray, List.set_cons_zero, List.set_cons_succ]
                          refine wpAnyH_take (i := 10) (oi := { dst := some 93, op := Go.Op.move (Go.Operand.tmp 15), type := 4, pos := "ref.go:127", after := #[{ on := 9, ground := Go.Ground.guard }], guard := some (9, true) }) (v := ?_) rfl (by kernel_rfl) (by kernel_rfl) (by kernel_rfl) (fun _ _ _ h => h) (Or.inl ⟨by rfl, ?hy⟩) hH ?_
                          case hy => (intro w hSw; (try dsimp only at hSw); go_simp; try with_reducible rfl)
                          try simp only [Act.put, List.setIfInBounds_toArray, List.set_cons_zero, List.set_cons_succ]
                          refine wpAnyH_take (i := 11) (oi := { dst := some 94, op := Go.Op.pick (Go.Operand.tmp 92) (Go.Operand.tmp 93) (Go.Operand.const (Go.Value.bool false)), type := 4, pos := "ref.go:127", after := #[{ on := 9, ground := Go.Ground.data }, { on := 10, ground := Go.Ground.data }], guard := none }) (v := ?_) rfl (by kernel_rfl) (by kernel_rfl) (by kernel_rfl) (fun _ _ _ h => h) (Or.inl ⟨by rfl, ?hy⟩) hH ?_
                          case hy => (intro w hSw; (try dsimp only at hSw); go_simp; try with_reducible rfl)
                          try simp only [Act.put, List.setIfInBounds_toArray, List.set_cons_zero, List.set_cons_succ]
                          refine wpAnyH_take (i := 12) (oi := { dst := some 95, op := Go.Op.move (Go.Operand.tmp 94), type := 4, pos := "ref.go:127", after := #[{ on := 11, ground := Go.Ground.data }, { on := 9, ground := Go.Ground.chain }], guard := none }) (v := ?_) rfl (by kernel_rfl) (by kernel_rfl) (by kernel_rfl) (fun _ _ _ h => h) (Or.inl ⟨by rfl, ?hy⟩) hH ?_
                          case hy => (intro w hSw; (try dsimp only at hSw); go_simp; try with_reducible rfl)
                          try simp only [Act.put, List.setIfInBounds_toArray, List.set_cons_zero, List.set_cons_succ]
                          refine wpAnyH_take (i := 13) (oi := { dst := some 96, op := Go.Op.move (Go.Operand.tmp 16), type := 4, pos := "ref.go:127", after := #[{ on := 12, ground := Go.Ground.guard }], guard := some (12, true) }) (v := ?_) rfl (by kernel_rfl) (by kernel_rfl) (by kernel_rfl) (fun _ _ _ h => h) (Or.inl ⟨by rfl, ?hy⟩) hH ?_
                          case hy => (intro w hSw; (try dsimp only at hSw); go_simp; try with_reducible rfl)
                          try simp only [Act.put, List.setIfInBounds_toArray, List.set_cons_zero, List.set_cons_succ]
                          refine wpAnyH_take (i := 14) (oi := { dst := some 97, op := Go.Op.pick (Go.Operand.tmp 95) (Go.Operand.tmp 96) (Go.Operand.const (Go.Value.bool false)), type := 4, pos := "ref.go:127", after := #[{ on := 12, ground := Go.Ground.data }, { on := 13, ground := Go.Ground.data }], guard := none }) (v := ?_) rfl (by kernel_rfl) (by kernel_rfl) (by kernel_rfl) (fun _ _ _ h => h) (Or.inl ⟨by rfl, ?hy⟩) hH ?_
                          case hy => (intro w hSw; (try dsimp only at hSw); go_simp; try with_reducible rfl)
                          try simp only [Act.put, List.setIfInBounds_toArray, List.set_cons_zero, List.set_cons_succ]
                          refine wpAnyH_done (by kernel_rfl) ?_ _
                          have hbz := below_ext hbpb hH
                          have hTz := hTb.after hH
                          clear hH x0 q0
                          go_wp2
                          go_roundw
                          case rel => exact ⟨j + 1, by omega, by go_num, HMS.out, hbz, hTz⟩
                          case measure => simp [intOf]; omega
                        | true =>
                          have HE := hide (HHIT.out (by rw [HPM.out]; exact any_hit HY.out (by unfold midB; rw [hu1, hu2, decide_eq_true he]; rfl)))
                          have HU2 := hide hu2
                          clear he hu1 hu2
                          go_wp2
                          refine wp_region_held_drew (S := fun w' => Below wp.heap.size wp w') (by kernel_rfl) (below_drew wp) (fun hH => ?_)
                          refine wpAnyH_take (i := 0) (oi := { dst := some 65, op := Go.Op.move (Go.Operand.tmp 1), type := 26, pos := "ref.go:125", after := #[], guard := none }) (v := ?_) rfl (by kernel_rfl) (by kernel_rfl) (by kernel_rfl) (fun _ _ _ h => h) (Or.inl ⟨by rfl, ?hy⟩) hH ?_
                          case hy => (intro w hSw; (try dsimp only at hSw); go_simp; try with_reducible rfl)
                          try simp only [Act.put, List.setIfInBounds_toArray, List.set_cons_zero, List.set_cons_succ]
                          refine wpAnyH_take (i := 1) (oi := { dst := some 66, op := Go.Op.fieldAddr 42 (Go.Operand.tmp 9) 1, type := 0, pos := "ref.go:125", after := #[], guard := none }) (v := ?_) rfl (by kernel_rfl) (by kernel_rfl) (by kernel_rfl) (fun _ _ _ h => h) (Or.inl ⟨by rfl, ?hy⟩) hH ?_
                          case hy => (intro w hSw; (try dsimp only at hSw); go_simp; try with_reducible rfl)
                          try simp only [Act.put, List.setIfInBounds_toArray, List.set_cons_zero, List.set_cons_succ]
                          refine wpAnyH_take (i := 2) (oi := { dst := some 67, op := Go.Op.load 28 (Go.Operand.tmp 66), type := 28, pos := "ref.go:125", after := #[{ on := 1, ground := Go.Ground.data }], guard := none }) (v := ?_) rfl (by kernel_rfl) (by kernel_rfl) (by kernel_rfl) (fun _ _ _ h => h) (Or.inl ⟨by rfl, ?hy⟩) hH ?_
                          case hy => (intro w hSw; (try dsimp only at hSw); go_simp; try with_reducible rfl)
                          try simp only [Act.put, List.setIfInBounds_toArray, List.set_cons_zero, List.set_cons_succ]
                          refine wpAnyH_take (i := 3) (oi := { dst := some 68, op := Go.Op.move (Go.Operand.tmp 3), type := 49, pos := "ref.go:125", after := #[], guard := none }) (v := ?_) rfl (by kernel_rfl) (by kernel_rfl) (by kernel_rfl) (fun _ _ _ h => h) (Or.inl ⟨by rfl, ?hy⟩) hH ?_
                          case hy => (intro w hSw; (try dsimp only at hSw); go_simp; try with_reducible rfl)
                          try simp only [Act.put, List.setIfInBounds_toArray, List.set_cons_zero, List.set_cons_succ]
                          refine wpAnyH_take (i := 4) (oi := { dst := some 69, op := Go.Op.move (Go.Operand.tmp 14), type := 3, pos := "ref.go:125", after := #[], guard := none }) (v := ?_) rfl (by kernel_rfl) (by kernel_rfl) (by kernel_rfl) (fun _ _ _ h => h) (Or.inl ⟨by rfl, ?hy⟩) hH ?_
                          case hy => (intro w hSw; (try dsimp only at hSw); go_simp; try with_reducible rfl)
                          try simp only [Act.put, List.setIfInBounds_toArray, List.set_cons_zero, List.set_cons_succ]
                          refine wpAnyH_take (i := 5) (oi := { dst := some 70, op := Go.Op.indexAddr 49 (Go.Operand.tmp 68) (Go.Operand.tmp 69), type := 0, pos := "ref.go:125", after := #[{ on := 3, ground := Go.Ground.data }, { on := 4, ground := Go.Ground.data }], guard := none }) (v := ?_) rfl (by kernel_rfl) (by kernel_rfl) (by kernel_rfl) (fun _ _ _ h => h) (Or.inl ⟨by rfl, ?hy⟩) hH ?_
                          case hy => (intro w hSw; (try dsimp only at hSw); go_simp; try with_reducible rfl)
                          try simp only [Act.put, List.setIfInBounds_toArray, List.set_cons_zero, List.set_cons_succ]
                          refine wpAnyH_take (i := 6) (oi := { dst := some 71, op := Go.Op.fieldAddr 42 (Go.Operand.tmp 70) 1, type := 0, pos := "ref.go:125", after := #[{ on := 5, ground := Go.Ground.data }], guard := none }) (v := ?_) rfl (by kernel_rfl) (by kernel_rfl) (by kernel_rfl) (fun _ _ _ h => h) (Or.inl ⟨by rfl, ?hy⟩) hH ?_
                          case hy => (intro w hSw; (try dsimp only at hSw); go_simp; try with_reducible rfl)
                          try simp only [Act.put, List.setIfInBounds_toArray, List.set_cons_zero, List.set_cons_succ]
                          refine wpAnyH_take (i := 7) (oi := { dst := some 72, op := Go.Op.load 28 (Go.Operand.tmp 71), type := 28, pos := "ref.go:125", after := #[{ on := 6, ground := Go.Ground.data }], guard := none }) (v := ?_) rfl (by kernel_rfl) (by kernel_rfl) (by kernel_rfl) (fun _ _ _ h => h) (Or.inl ⟨by rfl, ?hy⟩) hH ?_
                          case hy => (intro w hSw; (try dsimp only at hSw); go_simp; try with_reducible rfl)
                          try simp only [Act.put, List.setIfInBounds_toArray, List.set_cons_zero, List.set_cons_succ]
                          refine wpAnyH_ready (rs := [8]) (by kernel_rfl) (by simp) ?_
                          refine (AllReadyH.cons (o := { dst := some 73, op := Go.Op.call { callee := Go.Callee.value (Go.Operand.func 65), args := #[Go.Operand.tmp 65, Go.Operand.tmp 67, Go.Operand.tmp 72], argTypes := #[26, 28, 28] }, type := 4, pos := "ref.go:125", after := #[{ on := 0, ground := Go.Ground.data }, { on := 2, ground := Go.Ground.data }, { on := 7, ground := Go.Ground.data }], guard := none }) rfl (fun K hK => ?_) AllReadyH.nil)
                          go_simp
                          go_at_call 65
                          refine (runder_any l vl x.root y.root _ (HS.out.after (below_then hbW hbW.size (below_ext hbp hH))) hl).mono ?_
                          rw [HU1.out]
                          rintro e wa ⟨rfl, hhwa⟩
                          try go_simp
                          refine hK.out _ _ (below_ext hH hhwa) (fun hH2 => ?_)
                          clear hK K hH
                          have hH := hH2
                          clear hH2
                          try simp only [Act.put, List.setIfInBounds_toArray, List.set_cons_zero, List.set_cons_succ]
                          refine wpAnyH_take (i := 9) (oi := { dst := some 15, op := Go.Op.assign (Go.Operand.tmp 73), type := 4, pos := "ref.go:125", after := #[{ on := 8, ground := Go.Ground.data }, { on := 8, ground := Go.Ground.chain }, { on := 0, ground := Go.Ground.phase }, { on := 1, ground := Go.Ground.phase }, { on := 2, ground := Go.Ground.phase }, { on := 3, ground := Go.Ground.phase }, { on := 4, ground := Go.Ground.phase }, { on := 5, ground := Go.Ground.phase }, { on := 6, ground := Go.Ground.phase }, { on := 7, ground := Go.Ground.phase }, { on := 8, ground := Go.Ground.phase }], guard := none }) (v := ?_) rfl (by kernel_rfl) (by kernel_rfl) (by kernel_rfl) (fun _ _ _ h => h) (Or.inl ⟨by rfl, ?hy⟩) hH ?_
                          case hy => (intro w hSw; (try dsimp only at hSw); go_simp; try with_reducible rfl)
                          try simp only [Act.put, List.setIfInBounds_toArray, List.set_cons_zero, List.set_cons_succ]
                          refine wpAnyH_done (by kernel_rfl) ?_ _
                          have hbpa := below_ext hbp hH
                          have hTa := hTp.after hH
                          clear hH hhwa x1 x2 q1 q2
                          have s1 := hTa.ext 1 rfl
                          have s2 := hTa.ext 2 rfl
                          have q1 : ∀ w', Below wa.heap.size wa w' → w'.cell? ⟨bj, offj + j * 3 + 1, none⟩ = some (.int .u64 y.root.a.1) := fun w' h => HQ1.out w' (below_ext hbpa h)
                          have q2 : ∀ w', Below wa.heap.size wa w' → w'.cell? ⟨bj, offj + j * 3 + 2, none⟩ = some (.int .u64 y.root.b.1) := fun w' h => HQ2.out w' (below_ext hbpa h)
                          go_wp2
                          refine wp_region_held_drew (S := fun w' => Below wa.heap.size wa w') (by kernel_rfl) (below_drew wa) (fun hH => ?_)
                          refine wpAnyH_take (i := 0) (oi := { dst := some 74, op := Go.Op.move (Go.Operand.tmp 1), type := 26, pos := "ref.go:126", after := #[], guard := none }) (v := ?_) rfl (by kernel_rfl) (by kernel_rfl) (by kernel_rfl) (fun _ _ _ h => h) (Or.inl ⟨by rfl, ?hy⟩) hH ?_
                          case hy => (intro w hSw; (try dsimp only at hSw); go_simp; try with_reducible rfl)
                          try simp only [Act.put, List.setIfInBounds_toArray, List.set_cons_zero, List.set_cons_succ]
                          refine wpAnyH_take (i := 1) (oi := { dst := some 75, op := Go.Op.move (Go.Operand.tmp 3), type := 49, pos := "ref.go:126", after := #[], guard := none }) (v := ?_) rfl (by kernel_rfl) (by kernel_rfl) (by kernel_rfl) (fun _ _ _ h => h) (Or.inl ⟨by rfl, ?hy⟩) hH ?_
                          case hy => (intro w hSw; (try dsimp only at hSw); go_simp; try with_reducible rfl)
                          try simp only [Act.put, List.setIfInBounds_toArray, List.set_cons_zero, List.set_cons_succ]
                          refine wpAnyH_take (i := 2) (oi := { dst := some 76, op := Go.Op.move (Go.Operand.tmp 14), type := 3, pos := "ref.go:126", after := #[], guard := none }) (v := ?_) rfl (by kernel_rfl) (by kernel_rfl) (by kernel_rfl) (fun _ _ _ h => h) (Or.inl ⟨by rfl, ?hy⟩) hH ?_
                          case hy => (intro w hSw; (try dsimp only at hSw); go_simp; try with_reducible rfl)
                          try simp only [Act.put, List.setIfInBounds_toArray, List.set_cons_zero, List.set_cons_succ]
                          refine wpAnyH_take (i := 3) (oi := { dst := some 77, op := Go.Op.indexAddr 49 (Go.Operand.tmp 75) (Go.Operand.tmp 76), type := 0, pos := "ref.go:126", after := #[{ on := 1, ground := Go.Ground.data }, { on := 2, ground := Go.Ground.data }], guard := none }) (v := ?_) rfl (by kernel_rfl) (by kernel_rfl) (by kernel_rfl) (fun _ _ _ h => h) (Or.inl ⟨by rfl, ?hy⟩) hH ?_
                          case hy => (intro w hSw; (try dsimp only at hSw); go_simp; try with_reducible rfl)
                          try simp only [Act.put, List.setIfInBounds_toArray, List.set_cons_zero, List.set_cons_succ]
                          refine wpAnyH_take (i := 4) (oi := { dst := some 78, op := Go.Op.fieldAddr 42 (Go.Operand.tmp 77) 1, type := 0, pos := "ref.go:126", after := #[{ on := 3, ground := Go.Ground.data }], guard := none }) (v := ?_) rfl (by kernel_rfl) (by kernel_rfl) (by kernel_rfl) (fun _ _ _ h => h) (Or.inl ⟨by rfl, ?hy⟩) hH ?_
                          case hy => (intro w hSw; (try dsimp only at hSw); go_simp; try with_reducible rfl)
                          try simp only [Act.put, List.setIfInBounds_toArray, List.set_cons_zero, List.set_cons_succ]
                          refine wpAnyH_take (i := 5) (oi := { dst := some 79, op := Go.Op.load 28 (Go.Operand.tmp 78), type := 28, pos := "ref.go:126", after := #[{ on := 4, ground := Go.Ground.data }], guard := none }) (v := ?_) rfl (by kernel_rfl) (by kernel_rfl) (by kernel_rfl) (fun _ _ _ h => h) (Or.inl ⟨by rfl, ?hy⟩) hH ?_
                          case hy => (intro w hSw; (try dsimp only at hSw); go_simp; try with_reducible rfl)
                          try simp only [Act.put, List.setIfInBounds_toArray, List.set_cons_zero, List.set_cons_succ]
                          refine wpAnyH_take (i := 6) (oi := { dst := some 80, op := Go.Op.fieldAddr 42 (Go.Operand.tmp 12) 1, type := 0, pos := "ref.go:126", after := #[], guard := none }) (v := ?_) rfl (by kernel_rfl) (by kernel_rfl) (by kernel_rfl) (fun _ _ _ h => h) (Or.inl ⟨by rfl, ?hy⟩) hH ?_
                          case hy => (intro w hSw; (try dsimp only at hSw); go_simp; try with_reducible rfl)
                          try simp only [Act.put, List.setIfInBounds_toArray, List.set_cons_zero, List.set_cons_succ]
                          refine wpAnyH_take (i := 7) (oi := { dst := some 81, op := Go.Op.load 28 (Go.Operand.tmp 80), type := 28, pos := "ref.go:126", after := #[{ on := 6, ground := Go.Ground.data }], guard := none }) (v := ?_) rfl (by kernel_rfl) (by kernel_rfl) (by kernel_rfl) (fun _ _ _ h => h) (Or.inl ⟨by rfl, ?hy⟩) hH ?_
                          case hy => (intro w hSw; (try dsimp only at hSw); go_simp; try with_reducible rfl)
                          try simp only [Act.put, List.setIfInBounds_toArray, List.set_cons_zero, List.set_cons_succ]
                          refine wpAnyH_ready (rs := [8]) (by kernel_rfl) (by simp) ?_
                          refine (AllReadyH.cons (o := { dst := some 82, op := Go.Op.call { callee := Go.Callee.value (Go.Operand.func 65), args := #[Go.Operand.tmp 74, Go.Operand.tmp 79, Go.Operand.tmp 81], argTypes := #[26, 28, 28] }, type := 4, pos := "ref.go:126", after := #[{ on := 0, ground := Go.Ground.data }, { on := 5, ground := Go.Ground.data }, { on := 7, ground := Go.Ground.data }], guard := none }) rfl (fun K hK => ?_) AllReadyH.nil)
                          go_simp
                          go_at_call 65
                          refine (runder_any l vl y.root z.tgt.root _ (HS.out.after (below_then hbW hbW.size (below_ext hbpa hH))) hl).mono ?_
                          rw [HU2.out]
                          rintro e wb ⟨rfl, hhwb⟩
                          try go_simp
                          refine hK.out _ _ (below_ext hH hhwb) (fun hH2 => ?_)
                          clear hK K hH
                          have hH := hH2
                          clear hH2
                          try simp only [Act.put, List.setIfInBounds_toArray, List.set_cons_zero, List.set_cons_succ]
                          refine wpAnyH_take (i := 9) (oi := { dst := some 16, op := Go.Op.assign (Go.Operand.tmp 82), type := 4, pos := "ref.go:126", after := #[{ on := 8, ground := Go.Ground.data }, { on := 8, ground := Go.Ground.chain }, { on := 0, ground := Go.Ground.phase }, { on := 1, ground := Go.Ground.phase }, { on := 2, ground := Go.Ground.phase }, { on := 3, ground := Go.Ground.phase }, { on := 4, ground := Go.Ground.phase }, { on := 5, ground := Go.Ground.phase }, { on := 6, ground := Go.Ground.phase }, { on := 7, ground := Go.Ground.phase }, { on := 8, ground := Go.Ground.phase }], guard := none }) (v := ?_) rfl (by kernel_rfl) (by kernel_rfl) (by kernel_rfl) (fun _ _ _ h => h) (Or.inl ⟨by rfl, ?hy⟩) hH ?_
                          case hy => (intro w hSw; (try dsimp only at hSw); go_simp; try with_reducible rfl)
                          try simp only [Act.put, List.setIfInBounds_toArray, List.set_cons_zero, List.set_cons_succ]
                          refine wpAnyH_done (by kernel_rfl) ?_ _
                          have hbpb := below_ext hbpa hH
                          have hTb := hTa.after hH
                          clear hH hhwb s1 s2 q1 q2
                          have hXb := hX.after hbpb
                          have x0 := hXb.ext 0 rfl
                          have q0 : ∀ w', Below wb.heap.size wb w' → w'.cell? ⟨bj, offj + j * 3, none⟩ = some (.int .i64 y.ep.1) := fun w' h => HQ0.out w' (below_ext hbpb h)
                          go_wp2
                          refine wp_region_held_drew (S := fun w' => Below wb.heap.size wb w') (by kernel_rfl) (below_drew wb) (fun hH => ?_)
                          refine wpAnyH_take (i := 0) (oi := { dst := some 83, op := Go.Op.move (Go.Operand.tmp 3), type := 49, pos := "ref.go:127", after := #[], guard := none }) (v := ?_) rfl (by kernel_rfl) (by kernel_rfl) (by kernel_rfl) (fun _ _ _ h => h) (Or.inl ⟨by rfl, ?hy⟩) hH ?_
                          case hy => (intro w hSw; (try dsimp only at hSw); go_simp; try with_reducible rfl)
                          try simp only [Act.put, List.setIfInBounds_toArray, List.set_cons_zero, List.set_cons_succ]
                          refine wpAnyH_take (i := 1) (oi := { dst := some 84, op := Go.Op.move (Go.Operand.tmp 14), type := 3, pos := "ref.go:127", after := #[], guard := none }) (v := ?_) rfl (by kernel_rfl) (by kernel_rfl) (by kernel_rfl) (fun _ _ _ h => h) (Or.inl ⟨by rfl, ?hy⟩) hH ?_
                          case hy => (intro w hSw; (try dsimp only at hSw); go_simp; try with_reducible rfl)
                          try simp only [Act.put, List.setIfInBounds_toArray, List.set_cons_zero, List.set_cons_succ]
                          refine wpAnyH_take (i := 2) (oi := { dst := some 85, op := Go.Op.indexAddr 49 (Go.Operand.tmp 83) (Go.Operand.tmp 84), type := 0, pos := "ref.go:127", after := #[{ on := 0, ground := Go.Ground.data }, { on := 1, ground := Go.Ground.data }], guard := none }) (v := ?_) rfl (by kernel_rfl) (by kernel_rfl) (by kernel_rfl) (fun _ _ _ h => h) (Or.inl ⟨by rfl, ?hy⟩) hH ?_
                          case hy => (intro w hSw; (try dsimp only at hSw); go_simp; try with_reducible rfl)
                          try simp only [Act.put, List.setIfInBounds_toArray, List.set_cons_zero, List.set_cons_succ]
                          refine wpAnyH_take (i := 3) (oi := { dst := some 86, op := Go.Op.fieldAddr 42 (Go.Operand.tmp 85) 0, type := 0, pos := "ref.go:127", after := #[{ on := 2, ground := Go.Ground.data }], guard := none }) (v := ?_) rfl (by kernel_rfl) (by kernel_rfl) (by kernel_rfl) (fun _ _ _ h => h) (Or.inl ⟨by rfl, ?hy⟩) hH ?_
                          case hy => (intro w hSw; (try dsimp only at hSw); go_simp; try with_reducible rfl)
                          try simp only [Act.put, List.setIfInBounds_toArray, List.set_cons_zero, List.set_cons_succ]
                          refine wpAnyH_take (i := 4) (oi := { dst := some 87, op := Go.Op.load 3 (Go.Operand.tmp 86), type := 3, pos := "ref.go:127", after := #[{ on := 3, ground := Go.Ground.data }], guard := none }) (v := ?_) rfl (by kernel_rfl) (by kernel_rfl) (by kernel_rfl) (fun _ _ _ h => h) (Or.inl ⟨by rfl, ?hy⟩) hH ?_
                          case hy => (intro w hSw; (try dsimp only at hSw); go_simp; try with_reducible rfl)
                          try simp only [Act.put, List.setIfInBounds_toArray, List.set_cons_zero, List.set_cons_succ]
                          refine wpAnyH_take (i := 5) (oi := { dst := some 88, op := Go.Op.fieldAddr 42 (Go.Operand.tmp 9) 0, type := 0, pos := "ref.go:127", after := #[], guard := none }) (v := ?_) rfl (by kernel_rfl) (by kernel_rfl) (by kernel_rfl) (fun _ _ _ h => h) (Or.inl ⟨by rfl, ?hy⟩) hH ?_
                          case hy => (intro w hSw; (try dsimp only at hSw); go_simp; try with_reducible rfl)
                          try simp only [Act.put, List.setIfInBounds_toArray, List.set_cons_zero, List.set_cons_succ]
                          refine wpAnyH_take (i := 6) (oi := { dst := some 89, op := Go.Op.load 3 (Go.Operand.tmp 88), type := 3, pos := "ref.go:127", after := #[{ on := 5, ground := Go.Ground.data }], guard := none }) (v := ?_) rfl (by kernel_rfl) (by kernel_rfl) (by kernel_rfl) (fun _ _ _ h => h) (Or.inl ⟨by rfl, ?hy⟩) hH ?_
                          case hy => (intro w hSw; (try dsimp only at hSw); go_simp; try with_reducible rfl)
                          try simp only [Act.put, List.setIfInBounds_toArray, List.set_cons_zero, List.set_cons_succ]
                          refine wpAnyH_take (i := 7) (oi := { dst := some 90, op := Go.Op.binOp Go.BinOp.add 3 (Go.Operand.tmp 89) (Go.Operand.const (Go.Value.int Go.IntKind.i64 1)) 3, type := 3, pos := "ref.go:127", after := #[{ on := 6, ground := Go.Ground.data }], guard := none }) (v := ?_) rfl (by kernel_rfl) (by kernel_rfl) (by kernel_rfl) (fun _ _ _ h => h) (Or.inl ⟨by rfl, ?hy⟩) hH ?_
                          case hy => (intro w hSw; (try dsimp only at hSw); go_simp; try with_reducible rfl)
                          try simp only [Act.put, List.setIfInBounds_toArray, List.set_cons_zero, List.set_cons_succ]
                          refine wpAnyH_take (i := 8) (oi := { dst := some 91, op := Go.Op.binOp Go.BinOp.eql 3 (Go.Operand.tmp 87) (Go.Operand.tmp 90) 3, type := 4, pos := "ref.go:127", after := #[{ on := 4, ground := Go.Ground.data }, { on := 7, ground := Go.Ground.data }], guard := none }) (v := ?_) rfl (by kernel_rfl) (by kernel_rfl) (by kernel_rfl) (fun _ _ _ h => h) (Or.inl ⟨by rfl, ?hy⟩) hH ?_
                          case hy => (intro w hSw; (try dsimp only at hSw); go_simp; try with_reducible rfl)
                          try simp only [Act.put, List.setIfInBounds_toArray, List.set_cons_zero, List.set_cons_succ]
                          refine wpAnyH_take (i := 9) (oi := { dst := some 92, op := Go.Op.move (Go.Operand.tmp 91), type := 4, pos := "ref.go:127", after := #[{ on := 8, ground := Go.Ground.data }], guard := none }) (v := ?_) rfl (by kernel_rfl) (by kernel_rfl) (by kernel_rfl) (fun _ _ _ h => h) (Or.inl ⟨by rfl, ?hy⟩) hH ?_
                          case hy => (intro w hSw; (try dsimp only at hSw); go_simp; try with_reducible rfl)
                          try simp only [Act.put, List.setIfInBounds_toArray, List.set_cons_zero, List.set_cons_succ]
                          refine wpAnyH_take (i := 10) (oi := { dst := some 93, op := Go.Op.move (Go.Operand.tmp 15), type := 4, pos := "ref.go:127", after := #[{ on := 9, ground := Go.Ground.guard }], guard := some (9, true) }) (v := ?_) rfl (by kernel_rfl) (by kernel_rfl) (by kernel_rfl) (fun _ _ _ h => h) (Or.inl ⟨by rfl, ?hy⟩) hH ?_
                          case hy => (intro w hSw; (try dsimp only at hSw); go_simp; try with_reducible rfl)
                          try simp only [Act.put, List.setIfInBounds_toArray, List.set_cons_zero, List.set_cons_succ]
                          refine wpAnyH_take (i := 11) (oi := { dst := some 94, op := Go.Op.pick (Go.Operand.tmp 92) (Go.Operand.tmp 93) (Go.Operand.const (Go.Value.bool false)), type := 4, pos := "ref.go:127", after := #[{ on := 9, ground := Go.Ground.data }, { on := 10, ground := Go.Ground.data }], guard := none }) (v := ?_) rfl (by kernel_rfl) (by kernel_rfl) (by kernel_rfl) (fun _ _ _ h => h) (Or.inl ⟨by rfl, ?hy⟩) hH ?_
                          case hy => (intro w hSw; (try dsimp only at hSw); go_simp; try with_reducible rfl)
                          try simp only [Act.put, List.setIfInBounds_toArray, List.set_cons_zero, List.set_cons_succ]
                          refine wpAnyH_take (i := 12) (oi := { dst := some 95, op := Go.Op.move (Go.Operand.tmp 94), type := 4, pos := "ref.go:127", after := #[{ on := 11, ground := Go.Ground.data }, { on := 9, ground := Go.Ground.chain }], guard := none }) (v := ?_) rfl (by kernel_rfl) (by kernel_rfl) (by kernel_rfl) (fun _ _ _ h => h) (Or.inl ⟨by rfl, ?hy⟩) hH ?_
                          case hy => (intro w hSw; (try dsimp only at hSw); go_simp; try with_reducible rfl)
                          try simp only [Act.put, List.setIfInBounds_toArray, List.set_cons_zero, List.set_cons_succ]
                          refine wpAnyH_take (i := 13) (oi := { dst := some 96, op := Go.Op.move (Go.Operand.tmp 16), type := 4, pos := "ref.go:127", after := #[{ on := 12, ground := Go.Ground.guard }], guard := some (12, true) }) (v := ?_) rfl (by kernel_rfl) (by kernel_rfl) (by kernel_rfl) (fun _ _ _ h => h) (Or.inl ⟨by rfl, ?hy⟩) hH ?_
                          case hy => (intro w hSw; (try dsimp only at hSw); go_simp; try with_reducible rfl)
                          try simp only [Act.put, List.setIfInBounds_toArray, List.set_cons_zero, List.set_cons_succ]
                          refine wpAnyH_take (i := 14) (oi := { dst := some 97, op := Go.Op.pick (Go.Operand.tmp 95) (Go.Operand.tmp 96) (Go.Operand.const (Go.Value.bool false)), type := 4, pos := "ref.go:127", after := #[{ on := 12, ground := Go.Ground.data }, { on := 13, ground := Go.Ground.data }], guard := none }) (v := ?_) rfl (by kernel_rfl) (by kernel_rfl) (by kernel_rfl) (fun _ _ _ h => h) (Or.inl ⟨by rfl, ?hy⟩) hH ?_
                          case hy => (intro w hSw; (try dsimp only at hSw); go_simp; try with_reducible rfl)
                          try simp only [Act.put, List.setIfInBounds_toArray, List.set_cons_zero, List.set_cons_succ]
                          refine wpAnyH_done (by kernel_rfl) ?_ _
                          have hbz := below_ext hbpb hH
                          have hTz := hTb.after hH
                          clear hH x0 q0
                          go_wp2
                          go_ret
                          exact ⟨by rw [HE.out]; rfl, below_then hbW hbW.size hbz⟩
                    · have het : (y.ep.1 == x.ep.1 + 1) = false := by simpa using he
                      have HMS := hide (any_step (p := midB l ⟨x, z.tgt⟩) HY.out HNM.out (by unfold midB; rw [decide_eq_false he]; rfl))
                      obtain ⟨u1, hu1⟩ : ∃ u1, under l x.root y.root = u1 := ⟨_, rfl⟩
                      obtain ⟨u2, hu2⟩ : ∃ u2, under l y.root z.tgt.root = u2 := ⟨_, rfl⟩
                      have HU1 := hide hu1
                      have HU2 := hide hu2
                      clear he hu1 hu2
                      go_wp2
                      refine wp_region_held_drew (S := fun w' => Below wp.heap.size wp w') (by kernel_rfl) (below_drew wp) (fun hH => ?_)
                      refine wpAnyH_take (i := 0) (oi := { dst := some 65, op := Go.Op.move (Go.Operand.tmp 1), type := 26, pos := "ref.go:125", after := #[], guard := none }) (v := ?_) rfl (by kernel_rfl) (by kernel_rfl) (by kernel_rfl) (fun _ _ _ h => h) (Or.inl ⟨by rfl, ?hy⟩) hH ?_
                      case hy => (intro w hSw; (try dsimp only at hSw); go_simp; try with_reducible rfl)
                      try simp only [Act.put, List.setIfInBounds_toArray, List.set_cons_zero, List.set_cons_succ]
                      refine wpAnyH_take (i := 1) (oi := { dst := some 66, op := Go.Op.fieldAddr 42 (Go.Operand.tmp 9) 1, type := 0, pos := "ref.go:125", after := #[], guard := none }) (v := ?_) rfl (by kernel_rfl) (by kernel_rfl) (by kernel_rfl) (fun _ _ _ h => h) (Or.inl ⟨by rfl, ?hy⟩) hH ?_
                      case hy => (intro w hSw; (try dsimp only at hSw); go_simp; try with_reducible rfl)
                      try simp only [Act.put, List.setIfInBounds_toArray, List.set_cons_zero, List.set_cons_succ]
                      refine wpAnyH_take (i := 2) (oi := { dst := some 67, op := Go.Op.load 28 (Go.Operand.tmp 66), type := 28, pos := "ref.go:125", after := #[{ on := 1, ground := Go.Ground.data }], guard := none }) (v := ?_) rfl (by kernel_rfl) (by kernel_rfl) (by kernel_rfl) (fun _ _ _ h => h) (Or.inl ⟨by rfl, ?hy⟩) hH ?_
                      case hy => (intro w hSw; (try dsimp only at hSw); go_simp; try with_reducible rfl)
                      try simp only [Act.put, List.setIfInBounds_toArray, List.set_cons_zero, List.set_cons_succ]
                      refine wpAnyH_take (i := 3) (oi := { dst := some 68, op := Go.Op.move (Go.Operand.tmp 3), type := 49, pos := "ref.go:125", after := #[], guard := none }) (v := ?_) rfl (by kernel_rfl) (by kernel_rfl) (by kernel_rfl) (fun _ _ _ h => h) (Or.inl ⟨by rfl, ?hy⟩) hH ?_
                      case hy => (intro w hSw; (try dsimp only at hSw); go_simp; try with_reducible rfl)
                      try simp only [Act.put, List.setIfInBounds_toArray, List.set_cons_zero, List.set_cons_succ]
                      refine wpAnyH_take (i := 4) (oi := { dst := some 69, op := Go.Op.move (Go.Operand.tmp 14), type := 3, pos := "ref.go:125", after := #[], guard := none }) (v := ?_) rfl (by kernel_rfl) (by kernel_rfl) (by kernel_rfl) (fun _ _ _ h => h) (Or.inl ⟨by rfl, ?hy⟩) hH ?_
                      case hy => (intro w hSw; (try dsimp only at hSw); go_simp; try with_reducible rfl)
                      try simp only [Act.put, List.setIfInBounds_toArray, List.set_cons_zero, List.set_cons_succ]
                      refine wpAnyH_take (i := 5) (oi := { dst := some 70, op := Go.Op.indexAddr 49 (Go.Operand.tmp 68) (Go.Operand.tmp 69), type := 0, pos := "ref.go:125", after := #[{ on := 3, ground := Go.Ground.data }, { on := 4, ground := Go.Ground.data }], guard := none }) (v := ?_) rfl (by kernel_rfl) (by kernel_rfl) (by kernel_rfl) (fun _ _ _ h => h) (Or.inl ⟨by rfl, ?hy⟩) hH ?_
                      case hy => (intro w hSw; (try dsimp only at hSw); go_simp; try with_reducible rfl)
                      try simp only [Act.put, List.setIfInBounds_toArray, List.set_cons_zero, List.set_cons_succ]
                      refine wpAnyH_take (i := 6) (oi := { dst := some 71, op := Go.Op.fieldAddr 42 (Go.Operand.tmp 70) 1, type := 0, pos := "ref.go:125", after := #[{ on := 5, ground := Go.Ground.data }], guard := none }) (v := ?_) rfl (by kernel_rfl) (by kernel_rfl) (by kernel_rfl) (fun _ _ _ h => h) (Or.inl ⟨by rfl, ?hy⟩) hH ?_
                      case hy => (intro w hSw; (try dsimp only at hSw); go_simp; try with_reducible rfl)
                      try simp only [Act.put, List.setIfInBounds_toArray, List.set_cons_zero, List.set_cons_succ]
                      refine wpAnyH_take (i := 7) (oi := { dst := some 72, op := Go.Op.load 28 (Go.Operand.tmp 71), type := 28, pos := "ref.go:125", after := #[{ on := 6, ground := Go.Ground.data }], guard := none }) (v := ?_) rfl (by kernel_rfl) (by kernel_rfl) (by kernel_rfl) (fun _ _ _ h => h) (Or.inl ⟨by rfl, ?hy⟩) hH ?_
                      case hy => (intro w hSw; (try dsimp only at hSw); go_simp; try with_reducible rfl)
                      try simp only [Act.put, List.setIfInBounds_toArray, List.set_cons_zero, List.set_cons_succ]
                      refine wpAnyH_ready (rs := [8]) (by kernel_rfl) (by simp) ?_
                      refine (AllReadyH.cons (o := { dst := some 73, op := Go.Op.call { callee := Go.Callee.value (Go.Operand.func 65), args := #[Go.Operand.tmp 65, Go.Operand.tmp 67, Go.Operand.tmp 72], argTypes := #[26, 28, 28] }, type := 4, pos := "ref.go:125", after := #[{ on := 0, ground := Go.Ground.data }, { on := 2, ground := Go.Ground.data }, { on := 7, ground := Go.Ground.data }], guard := none }) rfl (fun K hK => ?_) AllReadyH.nil)
                      go_simp
                      go_at_call 65
                      refine (runder_any l vl x.root y.root _ (HS.out.after (below_then hbW hbW.size (below_ext hbp hH))) hl).mono ?_
                      rw [HU1.out]
                      rintro e wa ⟨rfl, hhwa⟩
                      try go_simp
                      refine hK.out _ _ (below_ext hH hhwa) (fun hH2 => ?_)
                      clear hK K hH
                      have hH := hH2
                      clear hH2
                      try simp only [Act.put, List.setIfInBounds_toArray, List.set_cons_zero, List.set_cons_succ]
                      refine wpAnyH_take (i := 9) (oi := { dst := some 15, op := Go.Op.assign (Go.Operand.tmp 73), type := 4, pos := "ref.go:125", after := #[{ on := 8, ground := Go.Ground.data }, { on := 8, ground := Go.Ground.chain }, { on := 0, ground := Go.Ground.phase }, { on := 1, ground := Go.Ground.phase }, { on := 2, ground := Go.Ground.phase }, { on := 3, ground := Go.Ground.phase }, { on := 4, ground := Go.Ground.phase }, { on := 5, ground := Go.Ground.phase }, { on := 6, ground := Go.Ground.phase }, { on := 7, ground := Go.Ground.phase }, { on := 8, ground := Go.Ground.phase }], guard := none }) (v := ?_) rfl (by kernel_rfl) (by kernel_rfl) (by kernel_rfl) (fun _ _ _ h => h) (Or.inl ⟨by rfl, ?hy⟩) hH ?_
                      case hy => (intro w hSw; (try dsimp only at hSw); go_simp; try with_reducible rfl)
                      try simp only [Act.put, List.setIfInBounds_toArray, List.set_cons_zero, List.set_cons_succ]
                      refine wpAnyH_done (by kernel_rfl) ?_ _
                      have hbpa := below_ext hbp hH
                      have hTa := hTp.after hH
                      clear hH hhwa x1 x2 q1 q2
                      have s1 := hTa.ext 1 rfl
                      have s2 := hTa.ext 2 rfl
                      have q1 : ∀ w', Below wa.heap.size wa w' → w'.cell? ⟨bj, offj + j * 3 + 1, none⟩ = some (.int .u64 y.root.a.1) := fun w' h => HQ1.out w' (below_ext hbpa h)
                      have q2 : ∀ w', Below wa.heap.size wa w' → w'.cell? ⟨bj, offj + j * 3 + 2, none⟩ = some (.int .u64 y.root.b.1) := fun w' h => HQ2.out w' (below_ext hbpa h)
                      go_wp2
                      refine wp_region_held_drew (S := fun w' => Below wa.heap.size wa w') (by kernel_rfl) (below_drew wa) (fun hH => ?_)
                      refine wpAnyH_take (i := 0) (oi := { dst := some 74, op := Go.Op.move (Go.Operand.tmp 1), type := 26, pos := "ref.go:126", after := #[], guard := none }) (v := ?_) rfl (by kernel_rfl) (by kernel_rfl) (by kernel_rfl) (fun _ _ _ h => h) (Or.inl ⟨by rfl, ?hy⟩) hH ?_
                      case hy => (intro w hSw; (try dsimp only at hSw); go_simp; try with_reducible rfl)
                      try simp only [Act.put, List.setIfInBounds_toArray, List.set_cons_zero, List.set_cons_succ]
                      refine wpAnyH_take (i := 1) (oi := { dst := some 75, op := Go.Op.move (Go.Operand.tmp 3), type := 49, pos := "ref.go:126", after := #[], guard := none }) (v := ?_) rfl (by kernel_rfl) (by kernel_rfl) (by kernel_rfl) (fun _ _ _ h => h) (Or.inl ⟨by rfl, ?hy⟩) hH ?_
                      case hy => (intro w hSw; (try dsimp only at hSw); go_simp; try with_reducible rfl)
                      try simp only [Act.put, List.setIfInBounds_toArray, List.set_cons_zero, List.set_cons_succ]
                      refine wpAnyH_take (i := 2) (oi := { dst := some 76, op := Go.Op.move (Go.Operand.tmp 14), type := 3, pos := "ref.go:126", after := #[], guard := none }) (v := ?_) rfl (by kernel_rfl) (by kernel_rfl) (by kernel_rfl) (fun _ _ _ h => h) (Or.inl ⟨by rfl, ?hy⟩) hH ?_
                      case hy => (intro w hSw; (try dsimp only at hSw); go_simp; try with_reducible rfl)
                      try simp only [Act.put, List.setIfInBounds_toArray, List.set_cons_zero, List.set_cons_succ]
                      refine wpAnyH_take (i := 3) (oi := { dst := some 77, op := Go.Op.indexAddr 49 (Go.Operand.tmp 75) (Go.Operand.tmp 76), type := 0, pos := "ref.go:126", after := #[{ on := 1, ground := Go.Ground.data }, { on := 2, ground := Go.Ground.data }], guard := none }) (v := ?_) rfl (by kernel_rfl) (by kernel_rfl) (by kernel_rfl) (fun _ _ _ h => h) (Or.inl ⟨by rfl, ?hy⟩) hH ?_
                      case hy => (intro w hSw; (try dsimp only at hSw); go_simp; try with_reducible rfl)
                      try simp only [Act.put, List.setIfInBounds_toArray, List.set_cons_zero, List.set_cons_succ]
                      refine wpAnyH_take (i := 4) (oi := { dst := some 78, op := Go.Op.fieldAddr 42 (Go.Operand.tmp 77) 1, type := 0, pos := "ref.go:126", after := #[{ on := 3, ground := Go.Ground.data }], guard := none }) (v := ?_) rfl (by kernel_rfl) (by kernel_rfl) (by kernel_rfl) (fun _ _ _ h => h) (Or.inl ⟨by rfl, ?hy⟩) hH ?_
                      case hy => (intro w hSw; (try dsimp only at hSw); go_simp; try with_reducible rfl)
                      try simp only [Act.put, List.setIfInBounds_toArray, List.set_cons_zero, List.set_cons_succ]
                      refine wpAnyH_take (i := 5) (oi := { dst := some 79, op := Go.Op.load 28 (Go.Operand.tmp 78), type := 28, pos := "ref.go:126", after := #[{ on := 4, ground := Go.Ground.data }], guard := none }) (v := ?_) rfl (by kernel_rfl) (by kernel_rfl) (by kernel_rfl) (fun _ _ _ h => h) (Or.inl ⟨by rfl, ?hy⟩) hH ?_
                      case hy => (intro w hSw; (try dsimp only at hSw); go_simp; try with_reducible rfl)
                      try simp only [Act.put, List.setIfInBounds_toArray, List.set_cons_zero, List.set_cons_succ]
                      refine wpAnyH_take (i := 6) (oi := { dst := some 80, op := Go.Op.fieldAddr 42 (Go.Operand.tmp 12) 1, type := 0, pos := "ref.go:126", after := #[], guard := none }) (v := ?_) rfl (by kernel_rfl) (by kernel_rfl) (by kernel_rfl) (fun _ _ _ h => h) (Or.inl ⟨by rfl, ?hy⟩) hH ?_
                      case hy => (intro w hSw; (try dsimp only at hSw); go_simp; try with_reducible rfl)
                      try simp only [Act.put, List.setIfInBounds_toArray, List.set_cons_zero, List.set_cons_succ]
                      refine wpAnyH_take (i := 7) (oi := { dst := some 81, op := Go.Op.load 28 (Go.Operand.tmp 80), type := 28, pos := "ref.go:126", after := #[{ on := 6, ground := Go.Ground.data }], guard := none }) (v := ?_) rfl (by kernel_rfl) (by kernel_rfl) (by kernel_rfl) (fun _ _ _ h => h) (Or.inl ⟨by rfl, ?hy⟩) hH ?_
                      case hy => (intro w hSw; (try dsimp only at hSw); go_simp; try with_reducible rfl)
                      try simp only [Act.put, List.setIfInBounds_toArray, List.set_cons_zero, List.set_cons_succ]
                      refine wpAnyH_ready (rs := [8]) (by kernel_rfl) (by simp) ?_
                      refine (AllReadyH.cons (o := { dst := some 82, op := Go.Op.call { callee := Go.Callee.value (Go.Operand.func 65), args := #[Go.Operand.tmp 74, Go.Operand.tmp 79, Go.Operand.tmp 81], argTypes := #[26, 28, 28] }, type := 4, pos := "ref.go:126", after := #[{ on := 0, ground := Go.Ground.data }, { on := 5, ground := Go.Ground.data }, { on := 7, ground := Go.Ground.data }], guard := none }) rfl (fun K hK => ?_) AllReadyH.nil)
                      go_simp
                      go_at_call 65
                      refine (runder_any l vl y.root z.tgt.root _ (HS.out.after (below_then hbW hbW.size (below_ext hbpa hH))) hl).mono ?_
                      rw [HU2.out]
                      rintro e wb ⟨rfl, hhwb⟩
                      try go_simp
                      refine hK.out _ _ (below_ext hH hhwb) (fun hH2 => ?_)
                      clear hK K hH
                      have hH := hH2
                      clear hH2
                      try simp only [Act.put, List.setIfInBounds_toArray, List.set_cons_zero, List.set_cons_succ]
                      refine wpAnyH_take (i := 9) (oi := { dst := some 16, op := Go.Op.assign (Go.Operand.tmp 82), type := 4, pos := "ref.go:126", after := #[{ on := 8, ground := Go.Ground.data }, { on := 8, ground := Go.Ground.chain }, { on := 0, ground := Go.Ground.phase }, { on := 1, ground := Go.Ground.phase }, { on := 2, ground := Go.Ground.phase }, { on := 3, ground := Go.Ground.phase }, { on := 4, ground := Go.Ground.phase }, { on := 5, ground := Go.Ground.phase }, { on := 6, ground := Go.Ground.phase }, { on := 7, ground := Go.Ground.phase }, { on := 8, ground := Go.Ground.phase }], guard := none }) (v := ?_) rfl (by kernel_rfl) (by kernel_rfl) (by kernel_rfl) (fun _ _ _ h => h) (Or.inl ⟨by rfl, ?hy⟩) hH ?_
                      case hy => (intro w hSw; (try dsimp only at hSw); go_simp; try with_reducible rfl)
                      try simp only [Act.put, List.setIfInBounds_toArray, List.set_cons_zero, List.set_cons_succ]
                      refine wpAnyH_done (by kernel_rfl) ?_ _
                      have hbpb := below_ext hbpa hH
                      have hTb := hTa.after hH
                      clear hH hhwb s1 s2 q1 q2
                      have hXb := hX.after hbpb
                      have x0 := hXb.ext 0 rfl
                      have q0 : ∀ w', Below wb.heap.size wb w' → w'.cell? ⟨bj, offj + j * 3, none⟩ = some (.int .i64 y.ep.1) := fun w' h => HQ0.out w' (below_ext hbpb h)
                      go_wp2
                      refine wp_region_held_drew (S := fun w' => Below wb.heap.size wb w') (by kernel_rfl) (below_drew wb) (fun hH => ?_)
                      refine wpAnyH_take (i := 0) (oi := { dst := some 83, op := Go.Op.move (Go.Operand.tmp 3), type := 49, pos := "ref.go:127", after := #[], guard := none }) (v := ?_) rfl (by kernel_rfl) (by kernel_rfl) (by kernel_rfl) (fun _ _ _ h => h) (Or.inl ⟨by rfl, ?hy⟩) hH ?_
                      case hy => (intro w hSw; (try dsimp only at hSw); go_simp; try with_reducible rfl)
                      try simp only [Act.put, List.setIfInBounds_toArray, List.set_cons_zero, List.set_cons_succ]
                      refine wpAnyH_take (i := 1) (oi := { dst := some 84, op := Go.Op.move (Go.Operand.tmp 14), type := 3, pos := "ref.go:127", after := #[], guard := none }) (v := ?_) rfl (by kernel_rfl) (by kernel_rfl) (by kernel_rfl) (fun _ _ _ h => h) (Or.inl ⟨by rfl, ?hy⟩) hH ?_
                      case hy => (intro w hSw; (try dsimp only at hSw); go_simp; try with_reducible rfl)
                      try simp only [Act.put, List.setIfInBounds_toArray, List.set_cons_zero, List.set_cons_succ]
                      refine wpAnyH_take (i := 2) (oi := { dst := some 85, op := Go.Op.indexAddr 49 (Go.Operand.tmp 83) (Go.Operand.tmp 84), type := 0, pos := "ref.go:127", after := #[{ on := 0, ground := Go.Ground.data }, { on := 1, ground := Go.Ground.data }], guard := none }) (v := ?_) rfl (by kernel_rfl) (by kernel_rfl) (by kernel_rfl) (fun _ _ _ h => h) (Or.inl ⟨by rfl, ?hy⟩) hH ?_
                      case hy => (intro w hSw; (try dsimp only at hSw); go_simp; try with_reducible rfl)
                      try simp only [Act.put, List.setIfInBounds_toArray, List.set_cons_zero, List.set_cons_succ]
                      refine wpAnyH_take (i := 3) (oi := { dst := some 86, op := Go.Op.fieldAddr 42 (Go.Operand.tmp 85) 0, type := 0, pos := "ref.go:127", after := #[{ on := 2, ground := Go.Ground.data }], guard := none }) (v := ?_) rfl (by kernel_rfl) (by kernel_rfl) (by kernel_rfl) (fun _ _ _ h => h) (Or.inl ⟨by rfl, ?hy⟩) hH ?_
                      case hy => (intro w hSw; (try dsimp only at hSw); go_simp; try with_reducible rfl)
                      try simp only [Act.put, List.setIfInBounds_toArray, List.set_cons_zero, List.set_cons_succ]
                      refine wpAnyH_take (i := 4) (oi := { dst := some 87, op := Go.Op.load 3 (Go.Operand.tmp 86), type := 3, pos := "ref.go:127", after := #[{ on := 3, ground := Go.Ground.data }], guard := none }) (v := ?_) rfl (by kernel_rfl) (by kernel_rfl) (by kernel_rfl) (fun _ _ _ h => h) (Or.inl ⟨by rfl, ?hy⟩) hH ?_
                      case hy => (intro w hSw; (try dsimp only at hSw); go_simp; try with_reducible rfl)
                      try simp only [Act.put, List.setIfInBounds_toArray, List.set_cons_zero, List.set_cons_succ]
                      refine wpAnyH_take (i := 5) (oi := { dst := some 88, op := Go.Op.fieldAddr 42 (Go.Operand.tmp 9) 0, type := 0, pos := "ref.go:127", after := #[], guard := none }) (v := ?_) rfl (by kernel_rfl) (by kernel_rfl) (by kernel_rfl) (fun _ _ _ h => h) (Or.inl ⟨by rfl, ?hy⟩) hH ?_
                      case hy => (intro w hSw; (try dsimp only at hSw); go_simp; try with_reducible rfl)
                      try simp only [Act.put, List.setIfInBounds_toArray, List.set_cons_zero, List.set_cons_succ]
                      refine wpAnyH_take (i := 6) (oi := { dst := some 89, op := Go.Op.load 3 (Go.Operand.tmp 88), type := 3, pos := "ref.go:127", after := #[{ on := 5, ground := Go.Ground.data }], guard := none }) (v := ?_) rfl (by kernel_rfl) (by kernel_rfl) (by kernel_rfl) (fun _ _ _ h => h) (Or.inl ⟨by rfl, ?hy⟩) hH ?_
                      case hy => (intro w hSw; (try dsimp only at hSw); go_simp; try with_reducible rfl)
                      try simp only [Act.put, List.setIfInBounds_toArray, List.set_cons_zero, List.set_cons_succ]
                      refine wpAnyH_take (i := 7) (oi := { dst := some 90, op := Go.Op.binOp Go.BinOp.add 3 (Go.Operand.tmp 89) (Go.Operand.const (Go.Value.int Go.IntKind.i64 1)) 3, type := 3, pos := "ref.go:127", after := #[{ on := 6, ground := Go.Ground.data }], guard := none }) (v := ?_) rfl (by kernel_rfl) (by kernel_rfl) (by kernel_rfl) (fun _ _ _ h => h) (Or.inl ⟨by rfl, ?hy⟩) hH ?_
                      case hy => (intro w hSw; (try dsimp only at hSw); go_simp; try with_reducible rfl)
                      try simp only [Act.put, List.setIfInBounds_toArray, List.set_cons_zero, List.set_cons_succ]
                      refine wpAnyH_take (i := 8) (oi := { dst := some 91, op := Go.Op.binOp Go.BinOp.eql 3 (Go.Operand.tmp 87) (Go.Operand.tmp 90) 3, type := 4, pos := "ref.go:127", after := #[{ on := 4, ground := Go.Ground.data }, { on := 7, ground := Go.Ground.data }], guard := none }) (v := ?_) rfl (by kernel_rfl) (by kernel_rfl) (by kernel_rfl) (fun _ _ _ h => h) (Or.inl ⟨by rfl, ?hy⟩) hH ?_
                      case hy => (intro w hSw; (try dsimp only at hSw); go_simp; try with_reducible rfl)
                      try simp only [Act.put, List.setIfInBounds_toArray, List.set_cons_zero, List.set_cons_succ]
                      refine wpAnyH_take (i := 9) (oi := { dst := some 92, op := Go.Op.move (Go.Operand.tmp 91), type := 4, pos := "ref.go:127", after := #[{ on := 8, ground := Go.Ground.data }], guard := none }) (v := ?_) rfl (by kernel_rfl) (by kernel_rfl) (by kernel_rfl) (fun _ _ _ h => h) (Or.inl ⟨by rfl, ?hy⟩) hH ?_
                      case hy => (intro w hSw; (try dsimp only at hSw); go_simp; try with_reducible rfl)
                      try simp only [Act.put, List.setIfInBounds_toArray, List.set_cons_zero, List.set_cons_succ]
                      refine wpAnyH_take (i := 10) (oi := { dst := some 93, op := Go.Op.move (Go.Operand.tmp 15), type := 4, pos := "ref.go:127", after := #[{ on := 9, ground := Go.Ground.guard }], guard := some (9, true) }) (v := undef) rfl (by kernel_rfl) (by kernel_rfl) (by kernel_rfl) (fun _ _ _ h => h) (Or.inr ⟨by rfl, rfl⟩) hH ?_
                      try simp only [Act.put, List.setIfInBounds_toArray, List.set_cons_zero, List.set_cons_succ]
                      refine wpAnyH_take (i := 11) (oi := { dst := some 94, op := Go.Op.pick (Go.Operand.tmp 92) (Go.Operand.tmp 93) (Go.Operand.const (Go.Value.bool false)), type := 4, pos := "ref.go:127", after := #[{ on := 9, ground := Go.Ground.data }, { on := 10, ground := Go.Ground.data }], guard := none }) (v := ?_) rfl (by kernel_rfl) (by kernel_rfl) (by kernel_rfl) (fun _ _ _ h => h) (Or.inl ⟨by rfl, ?hy⟩) hH ?_
                      case hy => (intro w hSw; (try dsimp only at hSw); go_simp; try with_reducible rfl)
                      try simp only [Act.put, List.setIfInBounds_toArray, List.set_cons_zero, List.set_cons_succ]
                      refine wpAnyH_take (i := 12) (oi := { dst := some 95, op := Go.Op.move (Go.Operand.tmp 94), type := 4, pos := "ref.go:127", after := #[{ on := 11, ground := Go.Ground.data }, { on := 9, ground := Go.Ground.chain }], guard := none }) (v := ?_) rfl (by kernel_rfl) (by kernel_rfl) (by kernel_rfl) (fun _ _ _ h => h) (Or.inl ⟨by rfl, ?hy⟩) hH ?_
                      case hy => (intro w hSw; (try dsimp only at hSw); go_simp; try with_reducible rfl)
                      try simp only [Act.put, List.setIfInBounds_toArray, List.set_cons_zero, List.set_cons_succ]
                      refine wpAnyH_take (i := 13) (oi := { dst := some 96, op := Go.Op.move (Go.Operand.tmp 16), type := 4, pos := "ref.go:127", after := #[{ on := 12, ground := Go.Ground.guard }], guard := some (12, true) }) (v := undef) rfl (by kernel_rfl) (by kernel_rfl) (by kernel_rfl) (fun _ _ _ h => h) (Or.inr ⟨by rfl, rfl⟩) hH ?_
                      try simp only [Act.put, List.setIfInBounds_toArray, List.set_cons_zero, List.set_cons_succ]
                      refine wpAnyH_take (i := 14) (oi := { dst := some 97, op := Go.Op.pick (Go.Operand.tmp 95) (Go.Operand.tmp 96) (Go.Operand.const (Go.Value.bool false)), type := 4, pos := "ref.go:127", after := #[{ on := 12, ground := Go.Ground.data }, { on := 13, ground := Go.Ground.data }], guard := none }) (v := ?_) rfl (by kernel_rfl) (by kernel_rfl) (by kernel_rfl) (fun _ _ _ h => h) (Or.inl ⟨by rfl, ?hy⟩) hH ?_
                      case hy => (intro w hSw; (try dsimp only at hSw); go_simp; try with_reducible rfl)
                      try simp only [Act.put, List.setIfInBounds_toArray, List.set_cons_zero, List.set_cons_succ]
                      refine wpAnyH_done (by kernel_rfl) ?_ _
                      have hbz := below_ext hbpb hH
                      have hTz := hTb.after hH
                      clear hH x0 q0
                      go_wp2
                      go_roundw
                      case rel => exact ⟨j + 1, by omega, by go_num, HMS.out, hbz, hTz⟩
                      case measure => simp [intOf]; omega
                  · have hjl' : js.length ≤ j := by omega
                    have HS2 : Hid (((fineL c l ls).take (k + 1)).any (finP c l ls js x) = false) := HSTEP.out (by rw [HPM.out]; have := HNM.out; rw [List.take_of_length_le hjl'] at this; exact this)
                    clear hltj hj hAJ
                    go_wp2
                    go_roundw
                    case rel => exact ⟨k + 1, by omega, by go_num, HS2.out, hbp'⟩
                    case measure => simp [intOf]; omega
        · have hq : ∀ W', (Op.equalIn 10000 42 (.agg #[.int .i64 z.src.ep.1, .int .u64 z.src.root.a.1, .int .u64 z.src.root.b.1]) (.agg #[.int .i64 x.ep.1, .int .u64 x.root.a.1, .int .u64 x.root.b.1])).run Try.prog W' = .ok false W' := fun W' => by have := run_equalIn_Chk (z.src) (x) W'; rw [decide_eq_false hsx] at this; exact this
          have HS2 := hide (HSTEP.out (finP_src hsx))
          clear hsx
          go_wp2
          refine wp_region_held_drew (S := fun w' => Below wq.heap.size wq w') (by kernel_rfl) (below_drew wq) (fun hH => ?_)
          refine wpAnyH_take (i := 0) (oi := { dst := some 31, op := Go.Op.move (Go.Operand.tmp 2), type := 40, pos := "ref.go:114", after := #[], guard := none }) (v := ?_) rfl (by kernel_rfl) (by kernel_rfl) (by kernel_rfl) (fun _ _ _ h => h) (Or.inl ⟨by rfl, ?hy⟩) hH ?_
          case hy => (intro w hSw; (try dsimp only at hSw); go_simp; try with_reducible rfl)
          try simp only [Act.put, List.setIfInBounds_toArray, List.set_cons_zero, List.set_cons_succ]
          refine wpAnyH_take (i := 1) (oi := { dst := some 32, op := Go.Op.move (Go.Operand.tmp 11), type := 3, pos := "ref.go:114", after := #[], guard := none }) (v := ?_) rfl (by kernel_rfl) (by kernel_rfl) (by kernel_rfl) (fun _ _ _ h => h) (Or.inl ⟨by rfl, ?hy⟩) hH ?_
          case hy => (intro w hSw; (try dsimp only at hSw); go_simp; try with_reducible rfl)
          try simp only [Act.put, List.setIfInBounds_toArray, List.set_cons_zero, List.set_cons_succ]
          refine wpAnyH_take (i := 2) (oi := { dst := some 33, op := Go.Op.indexAddr 40 (Go.Operand.tmp 31) (Go.Operand.tmp 32), type := 0, pos := "ref.go:114", after := #[{ on := 0, ground := Go.Ground.data }, { on := 1, ground := Go.Ground.data }], guard := none }) (v := ?_) rfl (by kernel_rfl) (by kernel_rfl) (by kernel_rfl) (fun _ _ _ h => h) (Or.inl ⟨by rfl, ?hy⟩) hH ?_
          case hy => (intro w hSw; (try dsimp only at hSw); go_simp; try with_reducible rfl)
          try simp only [Act.put, List.setIfInBounds_toArray, List.set_cons_zero, List.set_cons_succ]
          refine wpAnyH_take (i := 3) (oi := { dst := some 34, op := Go.Op.fieldAddr 44 (Go.Operand.tmp 33) 1, type := 0, pos := "ref.go:114", after := #[{ on := 2, ground := Go.Ground.data }], guard := none }) (v := ?_) rfl (by kernel_rfl) (by kernel_rfl) (by kernel_rfl) (fun _ _ _ h => h) (Or.inl ⟨by rfl, ?hy⟩) hH ?_
          case hy => (intro w hSw; (try dsimp only at hSw); go_simp; try with_reducible rfl)
          try simp only [Act.put, List.setIfInBounds_toArray, List.set_cons_zero, List.set_cons_succ]
          refine wpAnyH_take (i := 4) (oi := { dst := some 35, op := Go.Op.load 42 (Go.Operand.tmp 34), type := 42, pos := "ref.go:114", after := #[{ on := 3, ground := Go.Ground.data }], guard := none }) (v := ?_) rfl (by kernel_rfl) (by kernel_rfl) (by kernel_rfl) (fun _ _ _ h => h) (Or.inl ⟨by rfl, ?hy⟩) hH ?_
          case hy => (intro w hSw; (try dsimp only at hSw); go_simp; try with_reducible rfl)
          try simp only [Act.put, List.setIfInBounds_toArray, List.set_cons_zero, List.set_cons_succ]
          refine wpAnyH_take (i := 5) (oi := { dst := some 36, op := Go.Op.load 42 (Go.Operand.tmp 9), type := 42, pos := "ref.go:114", after := #[], guard := none }) (v := ?_) rfl (by kernel_rfl) (by kernel_rfl) (by kernel_rfl) (fun _ _ _ h => h) (Or.inl ⟨by rfl, ?hy⟩) hH ?_
          case hy => (intro w hSw; (try dsimp only at hSw); go_simp; try with_reducible rfl)
          try simp only [Act.put, List.setIfInBounds_toArray, List.set_cons_zero, List.set_cons_succ]
          refine wpAnyH_take (i := 6) (oi := { dst := some 37, op := Go.Op.binOp Go.BinOp.neq 42 (Go.Operand.tmp 35) (Go.Operand.tmp 36) 42, type := 4, pos := "ref.go:114", after := #[{ on := 4, ground := Go.Ground.data }, { on := 5, ground := Go.Ground.data }], guard := none }) (v := ?_) rfl (by kernel_rfl) (by kernel_rfl) (by kernel_rfl) (fun _ _ _ h => h) (Or.inl ⟨by rfl, ?hy⟩) hH ?_
          case hy => (intro w hSw; (try dsimp only at hSw); go_simp; try with_reducible rfl)
          try simp only [Act.put, List.setIfInBounds_toArray, List.set_cons_zero, List.set_cons_succ]
          refine wpAnyH_take (i := 7) (oi := { dst := some 38, op := Go.Op.move (Go.Operand.tmp 37), type := 4, pos := "ref.go:114", after := #[{ on := 6, ground := Go.Ground.data }], guard := none }) (v := ?_) rfl (by kernel_rfl) (by kernel_rfl) (by kernel_rfl) (fun _ _ _ h => h) (Or.inl ⟨by rfl, ?hy⟩) hH ?_
          case hy => (intro w hSw; (try dsimp only at hSw); go_simp; try with_reducible rfl)
          try simp only [Act.put, List.setIfInBounds_toArray, List.set_cons_zero, List.set_cons_succ]
          refine wpAnyH_take (i := 8) (oi := { dst := some 39, op := Go.Op.fieldAddr 42 (Go.Operand.tmp 12) 0, type := 0, pos := "ref.go:114", after := #[{ on := 7, ground := Go.Ground.guard }], guard := some (7, false) }) (v := undef) rfl (by kernel_rfl) (by kernel_rfl) (by kernel_rfl) (fun _ _ _ h => h) (Or.inr ⟨by rfl, rfl⟩) hH ?_
          try simp only [Act.put, List.setIfInBounds_toArray, List.set_cons_zero, List.set_cons_succ]
          refine wpAnyH_take (i := 9) (oi := { dst := some 40, op := Go.Op.load 3 (Go.Operand.tmp 39), type := 3, pos := "ref.go:114", after := #[{ on := 8, ground := Go.Ground.data }, { on := 7, ground := Go.Ground.guard }], guard := some (7, false) }) (v := undef) rfl (by kernel_rfl) (by kernel_rfl) (by kernel_rfl) (fun _ _ _ h => h) (Or.inr ⟨by rfl, rfl⟩) hH ?_
          try simp only [Act.put, List.setIfInBounds_toArray, List.set_cons_zero, List.set_cons_succ]
          refine wpAnyH_take (i := 10) (oi := { dst := some 41, op := Go.Op.fieldAddr 42 (Go.Operand.tmp 9) 0, type := 0, pos := "ref.go:114", after := #[{ on := 7, ground := Go.Ground.guard }], guard := some (7, false) }) (v := undef) rfl (by kernel_rfl) (by kernel_rfl) (by kernel_rfl) (fun _ _ _ h => h) (Or.inr ⟨by rfl, rfl⟩) hH ?_
          try simp only [Act.put, List.setIfInBounds_toArray, List.set_cons_zero, List.set_cons_succ]
          refine wpAnyH_take (i := 11) (oi := { dst := some 42, op := Go.Op.load 3 (Go.Operand.tmp 41), type := 3, pos := "ref.go:114", after := #[{ on := 10, ground := Go.Ground.data }, { on := 7, ground := Go.Ground.guard }], guard := some (7, false) }) (v := undef) rfl (by kernel_rfl) (by kernel_rfl) (by kernel_rfl) (fun _ _ _ h => h) (Or.inr ⟨by rfl, rfl⟩) hH ?_
          try simp only [Act.put, List.setIfInBounds_toArray, List.set_cons_zero, List.set_cons_succ]
          refine wpAnyH_take (i := 12) (oi := { dst := some 43, op := Go.Op.binOp Go.BinOp.add 3 (Go.Operand.tmp 42) (Go.Operand.const (Go.Value.int Go.IntKind.i64 2)) 3, type := 3, pos := "ref.go:114", after := #[{ on := 11, ground := Go.Ground.data }, { on := 7, ground := Go.Ground.guard }], guard := some (7, false) }) (v := undef) rfl (by kernel_rfl) (by kernel_rfl) (by kernel_rfl) (fun _ _ _ h => h) (Or.inr ⟨by rfl, rfl⟩) hH ?_
          try simp only [Act.put, List.setIfInBounds_toArray, List.set_cons_zero, List.set_cons_succ]
          refine wpAnyH_take (i := 13) (oi := { dst := some 44, op := Go.Op.binOp Go.BinOp.gtr 3 (Go.Operand.tmp 40) (Go.Operand.tmp 43) 3, type := 4, pos := "ref.go:114", after := #[{ on := 9, ground := Go.Ground.data }, { on := 12, ground := Go.Ground.data }, { on := 7, ground := Go.Ground.guard }], guard := some (7, false) }) (v := undef) rfl (by kernel_rfl) (by kernel_rfl) (by kernel_rfl) (fun _ _ _ h => h) (Or.inr ⟨by rfl, rfl⟩) hH ?_
          try simp only [Act.put, List.setIfInBounds_toArray, List.set_cons_zero, List.set_cons_succ]
          refine wpAnyH_take (i := 14) (oi := { dst := some 45, op := Go.Op.pick (Go.Operand.tmp 38) (Go.Operand.const (Go.Value.bool true)) (Go.Operand.tmp 44), type := 4, pos := "ref.go:114", after := #[{ on := 7, ground := Go.Ground.data }, { on := 13, ground := Go.Ground.data }], guard := none }) (v := ?_) rfl (by kernel_rfl) (by kernel_rfl) (by kernel_rfl) (fun _ _ _ h => h) (Or.inl ⟨by rfl, ?hy⟩) hH ?_
          case hy => (intro w hSw; (try dsimp only at hSw); go_simp; try with_reducible rfl)
          try simp only [Act.put, List.setIfInBounds_toArray, List.set_cons_zero, List.set_cons_succ]
          refine wpAnyH_done (by kernel_rfl) ?_ _
          have hbz := below_ext hb4 hH
          clear hH x0 x1 x2 t0 y1 y2 y3 hq
          go_wp2
          go_roundw
          case rel => exact ⟨k + 1, by omega, by go_num, HS2.out, hbz⟩
          case measure => simp [intOf]; omega
      · have hkn : (fineL c l ls).length ≤ k := by rw [HN.out]; omega
        have HE : Hid (finalB c l ls js x = false) := by unfold Hid; rw [HE0.out]; have := HNO.out; rw [List.take_of_length_le hkn] at this; exact this
        clear hkn hA hAJ
        go_wp2
        go_ret
        exact ⟨by rw [HE.out]; rfl, below_then hbW hbW.size hbr⟩
end Go.Proofs.Ytbfjoakaofgapaa
