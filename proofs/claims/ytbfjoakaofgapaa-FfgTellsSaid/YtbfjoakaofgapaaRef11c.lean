/- The reference of layer 11: the links that may be, and what is strong. -/
import Derived.Test.YtbfjoakaofgapaaRef11b
import Derived.Test.YtbfjoakaofgapaaAppSl
namespace Go.Proofs.Ytbfjoakaofgapaa
set_option linter.unusedSimpArgs false
set_option linter.unusedVariables false
set_option linter.unusedSectionVars false
open Go Go.RowKit
set_option maxRecDepth 100000

/-- Those of a way. -/
def pickL (fl : List Lnk) (a d : Chk) : List Lnk := fl.filter fun x => decide (x.src = a) && decide (x.tgt = d)
def strongL (c : Cnf) (fl : List Lnk) (a d : Chk) : Bool := decide (0 < (pickL fl a d).length) && decide (2 * totalC c ≤ 3 * weightC c ((pickL fl a d).map (·.frm)))
theorem strongL_fine (c : Cnf) (l : List Blk) (v : List Lnk) (a d : Chk) : strongL c (fineL c l v) a d = strongB c l v ⟨a, d⟩ := strong_ref c l v ⟨a, d⟩
set_option maxHeartbeats 8000000 in
theorem rstrong_any (c : Cnf) (v : Value) (ls : List Lnk) (vs : Value) (a d : Chk) (w : World) (hC : CnfAt w v c) (hL : Sl 7 encLnk w vs ls) (hls : ls.length ≤ 900000) :
    Calls Try.prog 66 #[v, vs, vChk a, vChk d] w fun e w' => e = .returned (.bool (strongL c ls a d)) ∧ Below w.heap.size w w' := by
  have HC := hide hC
  obtain ⟨s, rfl, hs⟩ := hC
  have hlen := hL.len_le
  have HL := hide hL
  obtain ⟨A, cap, rfl, hcap, hmax, hA⟩ := hL
  have hgd := guardChk
  clear hmax hs
  go_enter Try.func66, Try.ntmps66
  go_wp2
  obtain ⟨W, hW⟩ : ∃ W, ((w.alloc (.cells #[s, .int .u64 c.seed.1, .int .i64 c.epoch.1, .int .i64 c.num.1, .int .i64 c.den.1] 25)).alloc (.cells #[.int .i64 a.ep.1, .int .u64 a.root.a.1, .int .u64 a.root.b.1] 42)).alloc (.cells #[.int .i64 d.ep.1, .int .u64 d.root.a.1, .int .u64 d.root.b.1] 42) = W := ⟨_, rfl⟩
  have hbW : Below w.heap.size w W := by rw [← hW]; exact ((below_alloc w _).alloc (by simp) _).alloc (by simp; omega) _
  have hB0 : Blok W w.heap.size 25 #[s, .int .u64 c.seed.1, .int .i64 c.epoch.1, .int .i64 c.num.1, .int .i64 c.den.1] := by rw [← hW]; exact ((Blok.new _ _ _).alloc _).alloc _
  have hB1 : Blok W (w.heap.size + 1) 42 #[.int .i64 a.ep.1, .int .u64 a.root.a.1, .int .u64 a.root.b.1] := by rw [← hW]; simpa using (Blok.new (w.alloc (.cells #[s, .int .u64 c.seed.1, .int .i64 c.epoch.1, .int .i64 c.num.1, .int .i64 c.den.1] 25)) 42 #[.int .i64 a.ep.1, .int .u64 a.root.a.1, .int .u64 a.root.b.1]).alloc (.cells #[.int .i64 d.ep.1, .int .u64 d.root.a.1, .int .u64 d.root.b.1] 42)
  have hB2 : Blok W (w.heap.size + 2) 42 #[.int .i64 d.ep.1, .int .u64 d.root.a.1, .int .u64 d.root.b.1] := by rw [← hW]; simpa using Blok.new ((w.alloc (.cells #[s, .int .u64 c.seed.1, .int .i64 c.epoch.1, .int .i64 c.num.1, .int .i64 c.den.1] 25)).alloc (.cells #[.int .i64 a.ep.1, .int .u64 a.root.a.1, .int .u64 a.root.b.1] 42)) 42 #[.int .i64 d.ep.1, .int .u64 d.root.a.1, .int .u64 d.root.b.1]
  have hzW : w.heap.size + 3 ≤ W.heap.size := by rw [← hW]; simp
  rw [hW]
  clear hW
  have hsp : w.heap.size + 1 + 1 = w.heap.size + 2 := rfl
  go_loopw [9, 10] (fun v9 i wr => ∃ k : Nat, k ≤ ls.length ∧ i = .int .i64 k ∧ Below w.heap.size w wr ∧ Blok wr w.heap.size 25 #[s, .int .u64 c.seed.1, .int .i64 c.epoch.1, .int .i64 c.num.1, .int .i64 c.den.1] ∧ Blok wr (w.heap.size + 1) 42 #[.int .i64 a.ep.1, .int .u64 a.root.a.1, .int .u64 a.root.b.1] ∧ Blok wr (w.heap.size + 2) 42 #[.int .i64 d.ep.1, .int .u64 d.root.a.1, .int .u64 d.root.b.1] ∧ Own 1 encI 3 (w.heap.size + 3) wr v9 ((pickL (ls.take k) a d).map (·.frm)) ∧ w.heap.size + 3 ≤ wr.heap.size) (fun _ i _ => ls.length - (intOf i).toNat)
  case atStart => exact ⟨0, Nat.zero_le _, rfl, hbW, hB0, hB1, hB2, Own.nil _ _, hzW⟩
  case round =>
    clear hbW hB0 hB1 hB2 hzW
    obtain ⟨k, hk, rfl, hb, hB, hB1, hB2, hO, hz⟩ := hrel
    by_cases hlt : k < ls.length
    · obtain ⟨x, hx⟩ : ∃ x, ls[k]? = some x := ⟨_, List.getElem?_eq_getElem hlt⟩
      obtain ⟨b, off, rfl, hbl, hc⟩ := hA (by intro h; subst h; simp at hlt)
      obtain ⟨wq, hwq⟩ : ∃ wq, wq = wr := ⟨_, rfl⟩
      subst hwq
      have y0 : ∀ w', Below wq.heap.size wq w' → w'.cell? ⟨b, off + k * 7, none⟩ = some (.int .i64 x.frm.1) := fun w' h => ((below_then hb hb.size h).cell (p := ⟨b, _, none⟩) hbl).trans (hc k x hx 0 _ rfl)
      have y1 : ∀ w', Below wq.heap.size wq w' → w'.cell? ⟨b, off + k * 7 + 1, none⟩ = some (.int .i64 x.src.ep.1) := fun w' h => ((below_then hb hb.size h).cell (p := ⟨b, _, none⟩) hbl).trans (hc k x hx 1 _ rfl)
      have y2 : ∀ w', Below wq.heap.size wq w' → w'.cell? ⟨b, off + k * 7 + 2, none⟩ = some (.int .u64 x.src.root.a.1) := fun w' h => ((below_then hb hb.size h).cell (p := ⟨b, _, none⟩) hbl).trans (hc k x hx 2 _ rfl)
      have y3 : ∀ w', Below wq.heap.size wq w' → w'.cell? ⟨b, off + k * 7 + 3, none⟩ = some (.int .u64 x.src.root.b.1) := fun w' h => ((below_then hb hb.size h).cell (p := ⟨b, _, none⟩) hbl).trans (hc k x hx 3 _ rfl)
      have y4 : ∀ w', Below wq.heap.size wq w' → w'.cell? ⟨b, off + k * 7 + 4, none⟩ = some (.int .i64 x.tgt.ep.1) := fun w' h => ((below_then hb hb.size h).cell (p := ⟨b, _, none⟩) hbl).trans (hc k x hx 4 _ rfl)
      have y5 : ∀ w', Below wq.heap.size wq w' → w'.cell? ⟨b, off + k * 7 + 5, none⟩ = some (.int .u64 x.tgt.root.a.1) := fun w' h => ((below_then hb hb.size h).cell (p := ⟨b, _, none⟩) hbl).trans (hc k x hx 5 _ rfl)
      have y6 : ∀ w', Below wq.heap.size wq w' → w'.cell? ⟨b, off + k * 7 + 6, none⟩ = some (.int .u64 x.tgt.root.b.1) := fun w' h => ((below_then hb hb.size h).cell (p := ⟨b, _, none⟩) hbl).trans (hc k x hx 6 _ rfl)
      have p0 := hB1.ext 0 rfl
      have q0 := hB2.ext 0 rfl
      have p1 := hB1.ext 1 rfl
      have q1 := hB2.ext 1 rfl
      have p2 := hB1.ext 2 rfl
      have q2 := hB2.ext 2 rfl
      have HT := hide (take_snoc hx)
      have hfl : ((pickL (ls.take k) a d).map (·.frm)).length ≤ k := by rw [List.length_map]; exact Nat.le_trans (List.length_filter_le _ _) (by rw [List.length_take]; omega)
      have HFL := hide hfl
      clear hx hc hA hfl
      have i6 : (0 : Int) ≤ (k : Int) := by omega
      have i7 : (k : Int) < (ls.length : Int) := by omega
      have hNO : (x.src ≠ a ∨ x.tgt ≠ d) → (pickL (ls.take (k + 1)) a d).map (·.frm) = (pickL (ls.take k) a d).map (·.frm) := fun h => by
        unfold pickL
        rw [HT.out, List.filter_append, List.filter_cons_of_neg, List.filter_nil, List.append_nil]
        simp only [Bool.and_eq_true, decide_eq_true_eq]
        rintro ⟨h1, h2⟩
        exact h.elim (fun h => h h1) (fun h => h h2)
      have HNO := hide hNO
      clear hNO
      by_cases h1 : x.src = a
      · by_cases h2 : x.tgt = d
        · have HF : Hid ((pickL (ls.take (k + 1)) a d).map (·.frm) = (pickL (ls.take k) a d).map (·.frm) ++ [x.frm]) := by
            unfold Hid pickL
            rw [HT.out, List.filter_append, List.filter_cons_of_pos (by simp [h1, h2]), List.filter_nil, List.map_append]
            rfl
          have hq1 : ∀ W', (Op.equalIn 10000 42 (.agg #[.int .i64 x.src.ep.1, .int .u64 x.src.root.a.1, .int .u64 x.src.root.b.1]) (.agg #[.int .i64 a.ep.1, .int .u64 a.root.a.1, .int .u64 a.root.b.1])).run Try.prog W' = .ok true W' := fun W' => by have := run_equalIn_Chk (x.src) (a) W'; rw [decide_eq_true h1] at this; exact this
          have hq2 : ∀ W', (Op.equalIn 10000 42 (.agg #[.int .i64 x.tgt.ep.1, .int .u64 x.tgt.root.a.1, .int .u64 x.tgt.root.b.1]) (.agg #[.int .i64 d.ep.1, .int .u64 d.root.a.1, .int .u64 d.root.b.1])).run Try.prog W' = .ok true W' := fun W' => by have := run_equalIn_Chk (x.tgt) (d) W'; rw [decide_eq_true h2] at this; exact this
          clear h1 h2
          go_wp2
          refine wp_region_held_drew (S := fun w' => Below wq.heap.size wq w') (by kernel_rfl) (below_drew wq) (fun hH => ?_)
          refine wpAnyH_take (i := 0) (oi := { dst := some 17, op := Go.Op.move (Go.Operand.tmp 1), type := 40, pos := "ref.go:38", after := #[], guard := none }) (v := ?_) rfl (by kernel_rfl) (by kernel_rfl) (by kernel_rfl) (fun _ _ _ h => h) (Or.inl ⟨by rfl, ?hy⟩) hH ?_
          case hy => (intro w hSw; (try dsimp only at hSw); go_simp; try with_reducible rfl)
          try simp only [Act.put, List.setIfInBounds_toArray, List.set_cons_zero, List.set_cons_succ]
          refine wpAnyH_take (i := 1) (oi := { dst := some 18, op := Go.Op.move (Go.Operand.tmp 10), type := 3, pos := "ref.go:38", after := #[], guard := none }) (v := ?_) rfl (by kernel_rfl) (by kernel_rfl) (by kernel_rfl) (fun _ _ _ h => h) (Or.inl ⟨by rfl, ?hy⟩) hH ?_
          case hy => (intro w hSw; (try dsimp only at hSw); go_simp; try with_reducible rfl)
          try simp only [Act.put, List.setIfInBounds_toArray, List.set_cons_zero, List.set_cons_succ]
          refine wpAnyH_take (i := 2) (oi := { dst := some 19, op := Go.Op.indexAddr 40 (Go.Operand.tmp 17) (Go.Operand.tmp 18), type := 0, pos := "ref.go:38", after := #[{ on := 0, ground := Go.Ground.data }, { on := 1, ground := Go.Ground.data }], guard := none }) (v := ?_) rfl (by kernel_rfl) (by kernel_rfl) (by kernel_rfl) (fun _ _ _ h => h) (Or.inl ⟨by rfl, ?hy⟩) hH ?_
          case hy => (intro w hSw; (try dsimp only at hSw); go_simp; try with_reducible rfl)
          try simp only [Act.put, List.setIfInBounds_toArray, List.set_cons_zero, List.set_cons_succ]
          refine wpAnyH_take (i := 3) (oi := { dst := some 20, op := Go.Op.fieldAddr 44 (Go.Operand.tmp 19) 1, type := 0, pos := "ref.go:38", after := #[{ on := 2, ground := Go.Ground.data }], guard := none }) (v := ?_) rfl (by kernel_rfl) (by kernel_rfl) (by kernel_rfl) (fun _ _ _ h => h) (Or.inl ⟨by rfl, ?hy⟩) hH ?_
          case hy => (intro w hSw; (try dsimp only at hSw); go_simp; try with_reducible rfl)
          try simp only [Act.put, List.setIfInBounds_toArray, List.set_cons_zero, List.set_cons_succ]
          refine wpAnyH_take (i := 4) (oi := { dst := some 21, op := Go.Op.load 42 (Go.Operand.tmp 20), type := 42, pos := "ref.go:38", after := #[{ on := 3, ground := Go.Ground.data }], guard := none }) (v := ?_) rfl (by kernel_rfl) (by kernel_rfl) (by kernel_rfl) (fun _ _ _ h => h) (Or.inl ⟨by rfl, ?hy⟩) hH ?_
          case hy => (intro w hSw; (try dsimp only at hSw); go_simp; try with_reducible rfl)
          try simp only [Act.put, List.setIfInBounds_toArray, List.set_cons_zero, List.set_cons_succ]
          refine wpAnyH_take (i := 5) (oi := { dst := some 22, op := Go.Op.load 42 (Go.Operand.tmp 6), type := 42, pos := "ref.go:38", after := #[], guard := none }) (v := ?_) rfl (by kernel_rfl) (by kernel_rfl) (by kernel_rfl) (fun _ _ _ h => h) (Or.inl ⟨by rfl, ?hy⟩) hH ?_
          case hy => (intro w hSw; (try dsimp only at hSw); go_simp; try with_reducible rfl)
          try simp only [Act.put, List.setIfInBounds_toArray, List.set_cons_zero, List.set_cons_succ]
          refine wpAnyH_take (i := 6) (oi := { dst := some 23, op := Go.Op.binOp Go.BinOp.eql 42 (Go.Operand.tmp 21) (Go.Operand.tmp 22) 42, type := 4, pos := "ref.go:38", after := #[{ on := 4, ground := Go.Ground.data }, { on := 5, ground := Go.Ground.data }], guard := none }) (v := ?_) rfl (by kernel_rfl) (by kernel_rfl) (by kernel_rfl) (fun _ _ _ h => h) (Or.inl ⟨by rfl, ?hy⟩) hH ?_
          case hy => (intro w hSw; (try dsimp only at hSw); go_simp; try with_reducible rfl)
          try simp only [Act.put, List.setIfInBounds_toArray, List.set_cons_zero, List.set_cons_succ]
          refine wpAnyH_take (i := 7) (oi := { dst := some 24, op := Go.Op.move (Go.Operand.tmp 23), type := 4, pos := "ref.go:38", after := #[{ on := 6, ground := Go.Ground.data }], guard := none }) (v := ?_) rfl (by kernel_rfl) (by kernel_rfl) (by kernel_rfl) (fun _ _ _ h => h) (Or.inl ⟨by rfl, ?hy⟩) hH ?_
          case hy => (intro w hSw; (try dsimp only at hSw); go_simp; try with_reducible rfl)
          try simp only [Act.put, List.setIfInBounds_toArray, List.set_cons_zero, List.set_cons_succ]
          refine wpAnyH_take (i := 8) (oi := { dst := some 25, op := Go.Op.move (Go.Operand.tmp 1), type := 40, pos := "ref.go:38", after := #[{ on := 7, ground := Go.Ground.guard }], guard := some (7, true) }) (v := ?_) rfl (by kernel_rfl) (by kernel_rfl) (by kernel_rfl) (fun _ _ _ h => h) (Or.inl ⟨by rfl, ?hy⟩) hH ?_
          case hy => (intro w hSw; (try dsimp only at hSw); go_simp; try with_reducible rfl)
          try simp only [Act.put, List.setIfInBounds_toArray, List.set_cons_zero, List.set_cons_succ]
          refine wpAnyH_take (i := 9) (oi := { dst := some 26, op := Go.Op.move (Go.Operand.tmp 10), type := 3, pos := "ref.go:38", after := #[{ on := 7, ground := Go.Ground.guard }], guard := some (7, true) }) (v := ?_) rfl (by kernel_rfl) (by kernel_rfl) (by kernel_rfl) (fun _ _ _ h => h) (Or.inl ⟨by rfl, ?hy⟩) hH ?_
          case hy => (intro w hSw; (try dsimp only at hSw); go_simp; try with_reducible rfl)
          try simp only [Act.put, List.setIfInBounds_toArray, List.set_cons_zero, List.set_cons_succ]
          refine wpAnyH_take (i := 10) (oi := { dst := some 27, op := Go.Op.indexAddr 40 (Go.Operand.tmp 25) (Go.Operand.tmp 26), type := 0, pos := "ref.go:38", after := #[{ on := 8, ground := Go.Ground.data }, { on := 9, ground := Go.Ground.data }, { on := 7, ground := Go.Ground.guard }], guard := some (7, true) }) (v := ?_) rfl (by kernel_rfl) (by kernel_rfl) (by kernel_rfl) (fun _ _ _ h => h) (Or.inl ⟨by rfl, ?hy⟩) hH ?_
          case hy => (intro w hSw; (try dsimp only at hSw); go_simp; try with_reducible rfl)
          try simp only [Act.put, List.setIfInBounds_toArray, List.set_cons_zero, List.set_cons_succ]
          refine wpAnyH_take (i := 11) (oi := { dst := some 28, op := Go.Op.fieldAddr 44 (Go.Operand.tmp 27) 2, type := 0, pos := "ref.go:38", after := #[{ on := 10, ground := Go.Ground.data }, { on := 7, ground := Go.Ground.guard }], guard := some (7, true) }) (v := ?_) rfl (by kernel_rfl) (by kernel_rfl) (by kernel_rfl) (fun _ _ _ h => h) (Or.inl ⟨by rfl, ?hy⟩) hH ?_
          case hy => (intro w hSw; (try dsimp only at hSw); go_simp; try with_reducible rfl)
          try simp only [Act.put, List.setIfInBounds_toArray, List.set_cons_zero, List.set_cons_succ]
          refine wpAnyH_take (i := 12) (oi := { dst := some 29, op := Go.Op.load 42 (Go.Operand.tmp 28), type := 42, pos := "ref.go:38", after := #[{ on := 11, ground := Go.Ground.data }, { on := 7, ground := Go.Ground.guard }], guard := some (7, true) }) (v := ?_) rfl (by kernel_rfl) (by kernel_rfl) (by kernel_rfl) (fun _ _ _ h => h) (Or.inl ⟨by rfl, ?hy⟩) hH ?_
          case hy => (intro w hSw; (try dsimp only at hSw); go_simp; try with_reducible rfl)
          try simp only [Act.put, List.setIfInBounds_toArray, List.set_cons_zero, List.set_cons_succ]
          refine wpAnyH_take (i := 13) (oi := { dst := some 30, op := Go.Op.load 42 (Go.Operand.tmp 7), type := 42, pos := "ref.go:38", after := #[{ on := 7, ground := Go.Ground.guard }], guard := some (7, true) }) (v := ?_) rfl (by kernel_rfl) (by kernel_rfl) (by kernel_rfl) (fun _ _ _ h => h) (Or.inl ⟨by rfl, ?hy⟩) hH ?_
          case hy => (intro w hSw; (try dsimp only at hSw); go_simp; try with_reducible rfl)
          try simp only [Act.put, List.setIfInBounds_toArray, List.set_cons_zero, List.set_cons_succ]
          refine wpAnyH_take (i := 14) (oi := { dst := some 31, op := Go.Op.binOp Go.BinOp.eql 42 (Go.Operand.tmp 29) (Go.Operand.tmp 30) 42, type := 4, pos := "ref.go:38", after := #[{ on := 12, ground := Go.Ground.data }, { on := 13, ground := Go.Ground.data }, { on := 7, ground := Go.Ground.guard }], guard := some (7, true) }) (v := ?_) rfl (by kernel_rfl) (by kernel_rfl) (by kernel_rfl) (fun _ _ _ h => h) (Or.inl ⟨by rfl, ?hy⟩) hH ?_
          case hy => (intro w hSw; (try dsimp only at hSw); go_simp; try with_reducible rfl)
          try simp only [Act.put, List.setIfInBounds_toArray, List.set_cons_zero, List.set_cons_succ]
          refine wpAnyH_take (i := 15) (oi := { dst := some 32, op := Go.Op.pick (Go.Operand.tmp 24) (Go.Operand.tmp 31) (Go.Operand.const (Go.Value.bool false)), type := 4, pos := "ref.go:38", after := #[{ on := 7, ground := Go.Ground.data }, { on := 14, ground := Go.Ground.data }], guard := none }) (v := ?_) rfl (by kernel_rfl) (by kernel_rfl) (by kernel_rfl) (fun _ _ _ h => h) (Or.inl ⟨by rfl, ?hy⟩) hH ?_
          case hy => (intro w hSw; (try dsimp only at hSw); go_simp; try with_reducible rfl)
          try simp only [Act.put, List.setIfInBounds_toArray, List.set_cons_zero, List.set_cons_succ]
          refine wpAnyH_done (by kernel_rfl) ?_ _
          have e0 := y0 _ hH
          have e1 := y1 _ hH
          have e2 := y2 _ hH
          have e3 := y3 _ hH
          have e4 := y4 _ hH
          have e5 := y5 _ hH
          have e6 := y6 _ hH
          have hb5 := below_then hb hb.size hH
          have hB5 := hB.after hH
          have hB15 := hB1.after hH
          have hB25 := hB2.after hH
          have hO5 := hO.after hH
          have hz5 := hH.size
          clear hH p0 p1 p2 q0 q1 q2 y0 y1 y2 y3 y4 y5 y6 hb hB hB1 hB2 hO hq1 hq2
          go_wp2_with (at_builtin; refine wpList_app encI_len (by omega) encI_one (W := wq.drew) x.frm rfl (.tmp 33) (.tmp 39) rfl Try.underlying22 infoI rfl rfl rfl rfl hO5 (by have := HFL.out; omega) (by omega) (by omega) ?_; intro v8 w8 hO8 hg8)
          go_roundw
          case rel => exact ⟨k + 1, by omega, by go_num, below_row hb5 (by omega) hb5.size hO5 hg8, hB5.grown hg8 (hO5.ne (by omega)), hB15.grown hg8 (hO5.ne (by omega)), hB25.grown hg8 (hO5.ne (by omega)), by rw [HF.out]; exact hO8, by have := hg8.size; omega⟩
          case measure => simp [intOf]; omega
        · have HF := hide (HNO.out (.inr h2))
          have hq1 : ∀ W', (Op.equalIn 10000 42 (.agg #[.int .i64 x.src.ep.1, .int .u64 x.src.root.a.1, .int .u64 x.src.root.b.1]) (.agg #[.int .i64 a.ep.1, .int .u64 a.root.a.1, .int .u64 a.root.b.1])).run Try.prog W' = .ok true W' := fun W' => by have := run_equalIn_Chk (x.src) (a) W'; rw [decide_eq_true h1] at this; exact this
          have hq2 : ∀ W', (Op.equalIn 10000 42 (.agg #[.int .i64 x.tgt.ep.1, .int .u64 x.tgt.root.a.1, .int .u64 x.tgt.root.b.1]) (.agg #[.int .i64 d.ep.1, .int .u64 d.root.a.1, .int .u64 d.root.b.1])).run Try.prog W' = .ok false W' := fun W' => by have := run_equalIn_Chk (x.tgt) (d) W'; rw [decide_eq_false h2] at this; exact this
          clear h1 h2
          go_wp2
          refine wp_region_held_drew (S := fun w' => Below wq.heap.size wq w') (by kernel_rfl) (below_drew wq) (fun hH => ?_)
          refine wpAnyH_take (i := 0) (oi := { dst := some 17, op := Go.Op.move (Go.Operand.tmp 1), type := 40, pos := "ref.go:38", after := #[], guard := none }) (v := ?_) rfl (by kernel_rfl) (by kernel_rfl) (by kernel_rfl) (fun _ _ _ h => h) (Or.inl ⟨by rfl, ?hy⟩) hH ?_
          case hy => (intro w hSw; (try dsimp only at hSw); go_simp; try with_reducible rfl)
          try simp only [Act.put, List.setIfInBounds_toArray, List.set_cons_zero, List.set_cons_succ]
          refine wpAnyH_take (i := 1) (oi := { dst := some 18, op := Go.Op.move (Go.Operand.tmp 10), type := 3, pos := "ref.go:38", after := #[], guard := none }) (v := ?_) rfl (by kernel_rfl) (by kernel_rfl) (by kernel_rfl) (fun _ _ _ h => h) (Or.inl ⟨by rfl, ?hy⟩) hH ?_
          case hy => (intro w hSw; (try dsimp only at hSw); go_simp; try with_reducible rfl)
          try simp only [Act.put, List.setIfInBounds_toArray, List.set_cons_zero, List.set_cons_succ]
          refine wpAnyH_take (i := 2) (oi := { dst := some 19, op := Go.Op.indexAddr 40 (Go.Operand.tmp 17) (Go.Operand.tmp 18), type := 0, pos := "ref.go:38", after := #[{ on := 0, ground := Go.Ground.data }, { on := 1, ground := Go.Ground.data }], guard := none }) (v := ?_) rfl (by kernel_rfl) (by kernel_rfl) (by kernel_rfl) (fun _ _ _ h => h) (Or.inl ⟨by rfl, ?hy⟩) hH ?_
          case hy => (intro w hSw; (try dsimp only at hSw); go_simp; try with_reducible rfl)
          try simp only [Act.put, List.setIfInBounds_toArray, List.set_cons_zero, List.set_cons_succ]
          refine wpAnyH_take (i := 3) (oi := { dst := some 20, op := Go.Op.fieldAddr 44 (Go.Operand.tmp 19) 1, type := 0, pos := "ref.go:38", after := #[{ on := 2, ground := Go.Ground.data }], guard := none }) (v := ?_) rfl (by kernel_rfl) (by kernel_rfl) (by kernel_rfl) (fun _ _ _ h => h) (Or.inl ⟨by rfl, ?hy⟩) hH ?_
          case hy => (intro w hSw; (try dsimp only at hSw); go_simp; try with_reducible rfl)
          try simp only [Act.put, List.setIfInBounds_toArray, List.set_cons_zero, List.set_cons_succ]
          refine wpAnyH_take (i := 4) (oi := { dst := some 21, op := Go.Op.load 42 (Go.Operand.tmp 20), type := 42, pos := "ref.go:38", after := #[{ on := 3, ground := Go.Ground.data }], guard := none }) (v := ?_) rfl (by kernel_rfl) (by kernel_rfl) (by kernel_rfl) (fun _ _ _ h => h) (Or.inl ⟨by rfl, ?hy⟩) hH ?_
          case hy => (intro w hSw; (try dsimp only at hSw); go_simp; try with_reducible rfl)
          try simp only [Act.put, List.setIfInBounds_toArray, List.set_cons_zero, List.set_cons_succ]
          refine wpAnyH_take (i := 5) (oi := { dst := some 22, op := Go.Op.load 42 (Go.Operand.tmp 6), type := 42, pos := "ref.go:38", after := #[], guard := none }) (v := ?_) rfl (by kernel_rfl) (by kernel_rfl) (by kernel_rfl) (fun _ _ _ h => h) (Or.inl ⟨by rfl, ?hy⟩) hH ?_
          case hy => (intro w hSw; (try dsimp only at hSw); go_simp; try with_reducible rfl)
          try simp only [Act.put, List.setIfInBounds_toArray, List.set_cons_zero, List.set_cons_succ]
          refine wpAnyH_take (i := 6) (oi := { dst := some 23, op := Go.Op.binOp Go.BinOp.eql 42 (Go.Operand.tmp 21) (Go.Operand.tmp 22) 42, type := 4, pos := "ref.go:38", after := #[{ on := 4, ground := Go.Ground.data }, { on := 5, ground := Go.Ground.data }], guard := none }) (v := ?_) rfl (by kernel_rfl) (by kernel_rfl) (by kernel_rfl) (fun _ _ _ h => h) (Or.inl ⟨by rfl, ?hy⟩) hH ?_
          case hy => (intro w hSw; (try dsimp only at hSw); go_simp; try with_reducible rfl)
          try simp only [Act.put, List.setIfInBounds_toArray, List.set_cons_zero, List.set_cons_succ]
          refine wpAnyH_take (i := 7) (oi := { dst := some 24, op := Go.Op.move (Go.Operand.tmp 23), type := 4, pos := "ref.go:38", after := #[{ on := 6, ground := Go.Ground.data }], guard := none }) (v := ?_) rfl (by kernel_rfl) (by kernel_rfl) (by kernel_rfl) (fun _ _ _ h => h) (Or.inl ⟨by rfl, ?hy⟩) hH ?_
          case hy => (intro w hSw; (try dsimp only at hSw); go_simp; try with_reducible rfl)
          try simp only [Act.put, List.setIfInBounds_toArray, List.set_cons_zero, List.set_cons_succ]
          refine wpAnyH_take (i := 8) (oi := { dst := some 25, op := Go.Op.move (Go.Operand.tmp 1), type := 40, pos := "ref.go:38", after := #[{ on := 7, ground := Go.Ground.guard }], guard := some (7, true) }) (v := ?_) rfl (by kernel_rfl) (by kernel_rfl) (by kernel_rfl) (fun _ _ _ h => h) (Or.inl ⟨by rfl, ?hy⟩) hH ?_
          case hy => (intro w hSw; (try dsimp only at hSw); go_simp; try with_reducible rfl)
          try simp only [Act.put, List.setIfInBounds_toArray, List.set_cons_zero, List.set_cons_succ]
          refine wpAnyH_take (i := 9) (oi := { dst := some 26, op := Go.Op.move (Go.Operand.tmp 10), type := 3, pos := "ref.go:38", after := #[{ on := 7, ground := Go.Ground.guard }], guard := some (7, true) }) (v := ?_) rfl (by kernel_rfl) (by kernel_rfl) (by kernel_rfl) (fun _ _ _ h => h) (Or.inl ⟨by rfl, ?hy⟩) hH ?_
          case hy => (intro w hSw; (try dsimp only at hSw); go_simp; try with_reducible rfl)
          try simp only [Act.put, List.setIfInBounds_toArray, List.set_cons_zero, List.set_cons_succ]
          refine wpAnyH_take (i := 10) (oi := { dst := some 27, op := Go.Op.indexAddr 40 (Go.Operand.tmp 25) (Go.Operand.tmp 26), type := 0, pos := "ref.go:38", after := #[{ on := 8, ground := Go.Ground.data }, { on := 9, ground := Go.Ground.data }, { on := 7, ground := Go.Ground.guard }], guard := some (7, true) }) (v := ?_) rfl (by kernel_rfl) (by kernel_rfl) (by kernel_rfl) (fun _ _ _ h => h) (Or.inl ⟨by rfl, ?hy⟩) hH ?_
          case hy => (intro w hSw; (try dsimp only at hSw); go_simp; try with_reducible rfl)
          try simp only [Act.put, List.setIfInBounds_toArray, List.set_cons_zero, List.set_cons_succ]
          refine wpAnyH_take (i := 11) (oi := { dst := some 28, op := Go.Op.fieldAddr 44 (Go.Operand.tmp 27) 2, type := 0, pos := "ref.go:38", after := #[{ on := 10, ground := Go.Ground.data }, { on := 7, ground := Go.Ground.guard }], guard := some (7, true) }) (v := ?_) rfl (by kernel_rfl) (by kernel_rfl) (by kernel_rfl) (fun _ _ _ h => h) (Or.inl ⟨by rfl, ?hy⟩) hH ?_
          case hy => (intro w hSw; (try dsimp only at hSw); go_simp; try with_reducible rfl)
          try simp only [Act.put, List.setIfInBounds_toArray, List.set_cons_zero, List.set_cons_succ]
          refine wpAnyH_take (i := 12) (oi := { dst := some 29, op := Go.Op.load 42 (Go.Operand.tmp 28), type := 42, pos := "ref.go:38", after := #[{ on := 11, ground := Go.Ground.data }, { on := 7, ground := Go.Ground.guard }], guard := some (7, true) }) (v := ?_) rfl (by kernel_rfl) (by kernel_rfl) (by kernel_rfl) (fun _ _ _ h => h) (Or.inl ⟨by rfl, ?hy⟩) hH ?_
          case hy => (intro w hSw; (try dsimp only at hSw); go_simp; try with_reducible rfl)
          try simp only [Act.put, List.setIfInBounds_toArray, List.set_cons_zero, List.set_cons_succ]
          refine wpAnyH_take (i := 13) (oi := { dst := some 30, op := Go.Op.load 42 (Go.Operand.tmp 7), type := 42, pos := "ref.go:38", after := #[{ on := 7, ground := Go.Ground.guard }], guard := some (7, true) }) (v := ?_) rfl (by kernel_rfl) (by kernel_rfl) (by kernel_rfl) (fun _ _ _ h => h) (Or.inl ⟨by rfl, ?hy⟩) hH ?_
          case hy => (intro w hSw; (try dsimp only at hSw); go_simp; try with_reducible rfl)
          try simp only [Act.put, List.setIfInBounds_toArray, List.set_cons_zero, List.set_cons_succ]
          refine wpAnyH_take (i := 14) (oi := { dst := some 31, op := Go.Op.binOp Go.BinOp.eql 42 (Go.Operand.tmp 29) (Go.Operand.tmp 30) 42, type := 4, pos := "ref.go:38", after := #[{ on := 12, ground := Go.Ground.data }, { on := 13, ground := Go.Ground.data }, { on := 7, ground := Go.Ground.guard }], guard := some (7, true) }) (v := ?_) rfl (by kernel_rfl) (by kernel_rfl) (by kernel_rfl) (fun _ _ _ h => h) (Or.inl ⟨by rfl, ?hy⟩) hH ?_
          case hy => (intro w hSw; (try dsimp only at hSw); go_simp; try with_reducible rfl)
          try simp only [Act.put, List.setIfInBounds_toArray, List.set_cons_zero, List.set_cons_succ]
          refine wpAnyH_take (i := 15) (oi := { dst := some 32, op := Go.Op.pick (Go.Operand.tmp 24) (Go.Operand.tmp 31) (Go.Operand.const (Go.Value.bool false)), type := 4, pos := "ref.go:38", after := #[{ on := 7, ground := Go.Ground.data }, { on := 14, ground := Go.Ground.data }], guard := none }) (v := ?_) rfl (by kernel_rfl) (by kernel_rfl) (by kernel_rfl) (fun _ _ _ h => h) (Or.inl ⟨by rfl, ?hy⟩) hH ?_
          case hy => (intro w hSw; (try dsimp only at hSw); go_simp; try with_reducible rfl)
          try simp only [Act.put, List.setIfInBounds_toArray, List.set_cons_zero, List.set_cons_succ]
          refine wpAnyH_done (by kernel_rfl) ?_ _
          have hb5 := below_then hb hb.size hH
          have hB5 := hB.after hH
          have hB15 := hB1.after hH
          have hB25 := hB2.after hH
          have hO5 := hO.after hH
          have hz5 := hH.size
          clear hH p0 p1 p2 q0 q1 q2 y0 y1 y2 y3 y4 y5 y6 hb hB hB1 hB2 hO hq1 hq2
          go_wp2
          go_roundw
          case rel => exact ⟨k + 1, by omega, by go_num, hb5, hB5, hB15, hB25, by rw [HF.out]; exact hO5, by omega⟩
          case measure => simp [intOf]; omega
      · have HF := hide (HNO.out (.inl h1))
        have hq1 : ∀ W', (Op.equalIn 10000 42 (.agg #[.int .i64 x.src.ep.1, .int .u64 x.src.root.a.1, .int .u64 x.src.root.b.1]) (.agg #[.int .i64 a.ep.1, .int .u64 a.root.a.1, .int .u64 a.root.b.1])).run Try.prog W' = .ok false W' := fun W' => by have := run_equalIn_Chk (x.src) (a) W'; rw [decide_eq_false h1] at this; exact this
        clear h1
        go_wp2
        refine wp_region_held_drew (S := fun w' => Below wq.heap.size wq w') (by kernel_rfl) (below_drew wq) (fun hH => ?_)
        refine wpAnyH_take (i := 0) (oi := { dst := some 17, op := Go.Op.move (Go.Operand.tmp 1), type := 40, pos := "ref.go:38", after := #[], guard := none }) (v := ?_) rfl (by kernel_rfl) (by kernel_rfl) (by kernel_rfl) (fun _ _ _ h => h) (Or.inl ⟨by rfl, ?hy⟩) hH ?_
        case hy => (intro w hSw; (try dsimp only at hSw); go_simp; try with_reducible rfl)
        try simp only [Act.put, List.setIfInBounds_toArray, List.set_cons_zero, List.set_cons_succ]
        refine wpAnyH_take (i := 1) (oi := { dst := some 18, op := Go.Op.move (Go.Operand.tmp 10), type := 3, pos := "ref.go:38", after := #[], guard := none }) (v := ?_) rfl (by kernel_rfl) (by kernel_rfl) (by kernel_rfl) (fun _ _ _ h => h) (Or.inl ⟨by rfl, ?hy⟩) hH ?_
        case hy => (intro w hSw; (try dsimp only at hSw); go_simp; try with_reducible rfl)
        try simp only [Act.put, List.setIfInBounds_toArray, List.set_cons_zero, List.set_cons_succ]
        refine wpAnyH_take (i := 2) (oi := { dst := some 19, op := Go.Op.indexAddr 40 (Go.Operand.tmp 17) (Go.Operand.tmp 18), type := 0, pos := "ref.go:38", after := #[{ on := 0, ground := Go.Ground.data }, { on := 1, ground := Go.Ground.data }], guard := none }) (v := ?_) rfl (by kernel_rfl) (by kernel_rfl) (by kernel_rfl) (fun _ _ _ h => h) (Or.inl ⟨by rfl, ?hy⟩) hH ?_
        case hy => (intro w hSw; (try dsimp only at hSw); go_simp; try with_reducible rfl)
        try simp only [Act.put, List.setIfInBounds_toArray, List.set_cons_zero, List.set_cons_succ]
        refine wpAnyH_take (i := 3) (oi := { dst := some 20, op := Go.Op.fieldAddr 44 (Go.Operand.tmp 19) 1, type := 0, pos := "ref.go:38", after := #[{ on := 2, ground := Go.Ground.data }], guard := none }) (v := ?_) rfl (by kernel_rfl) (by kernel_rfl) (by kernel_rfl) (fun _ _ _ h => h) (Or.inl ⟨by rfl, ?hy⟩) hH ?_
        case hy => (intro w hSw; (try dsimp only at hSw); go_simp; try with_reducible rfl)
        try simp only [Act.put, List.setIfInBounds_toArray, List.set_cons_zero, List.set_cons_succ]
        refine wpAnyH_take (i := 4) (oi := { dst := some 21, op := Go.Op.load 42 (Go.Operand.tmp 20), type := 42, pos := "ref.go:38", after := #[{ on := 3, ground := Go.Ground.data }], guard := none }) (v := ?_) rfl (by kernel_rfl) (by kernel_rfl) (by kernel_rfl) (fun _ _ _ h => h) (Or.inl ⟨by rfl, ?hy⟩) hH ?_
        case hy => (intro w hSw; (try dsimp only at hSw); go_simp; try with_reducible rfl)
        try simp only [Act.put, List.setIfInBounds_toArray, List.set_cons_zero, List.set_cons_succ]
        refine wpAnyH_take (i := 5) (oi := { dst := some 22, op := Go.Op.load 42 (Go.Operand.tmp 6), type := 42, pos := "ref.go:38", after := #[], guard := none }) (v := ?_) rfl (by kernel_rfl) (by kernel_rfl) (by kernel_rfl) (fun _ _ _ h => h) (Or.inl ⟨by rfl, ?hy⟩) hH ?_
        case hy => (intro w hSw; (try dsimp only at hSw); go_simp; try with_reducible rfl)
        try simp only [Act.put, List.setIfInBounds_toArray, List.set_cons_zero, List.set_cons_succ]
        refine wpAnyH_take (i := 6) (oi := { dst := some 23, op := Go.Op.binOp Go.BinOp.eql 42 (Go.Operand.tmp 21) (Go.Operand.tmp 22) 42, type := 4, pos := "ref.go:38", after := #[{ on := 4, ground := Go.Ground.data }, { on := 5, ground := Go.Ground.data }], guard := none }) (v := ?_) rfl (by kernel_rfl) (by kernel_rfl) (by kernel_rfl) (fun _ _ _ h => h) (Or.inl ⟨by rfl, ?hy⟩) hH ?_
        case hy => (intro w hSw; (try dsimp only at hSw); go_simp; try with_reducible rfl)
        try simp only [Act.put, List.setIfInBounds_toArray, List.set_cons_zero, List.set_cons_succ]
        refine wpAnyH_take (i := 7) (oi := { dst := some 24, op := Go.Op.move (Go.Operand.tmp 23), type := 4, pos := "ref.go:38", after := #[{ on := 6, ground := Go.Ground.data }], guard := none }) (v := ?_) rfl (by kernel_rfl) (by kernel_rfl) (by kernel_rfl) (fun _ _ _ h => h) (Or.inl ⟨by rfl, ?hy⟩) hH ?_
        case hy => (intro w hSw; (try dsimp only at hSw); go_simp; try with_reducible rfl)
        try simp only [Act.put, List.setIfInBounds_toArray, List.set_cons_zero, List.set_cons_succ]
        refine wpAnyH_take (i := 8) (oi := { dst := some 25, op := Go.Op.move (Go.Operand.tmp 1), type := 40, pos := "ref.go:38", after := #[{ on := 7, ground := Go.Ground.guard }], guard := some (7, true) }) (v := undef) rfl (by kernel_rfl) (by kernel_rfl) (by kernel_rfl) (fun _ _ _ h => h) (Or.inr ⟨by rfl, rfl⟩) hH ?_
        try simp only [Act.put, List.setIfInBounds_toArray, List.set_cons_zero, List.set_cons_succ]
        refine wpAnyH_take (i := 9) (oi := { dst := some 26, op := Go.Op.move (Go.Operand.tmp 10), type := 3, pos := "ref.go:38", after := #[{ on := 7, ground := Go.Ground.guard }], guard := some (7, true) }) (v := undef) rfl (by kernel_rfl) (by kernel_rfl) (by kernel_rfl) (fun _ _ _ h => h) (Or.inr ⟨by rfl, rfl⟩) hH ?_
        try simp only [Act.put, List.setIfInBounds_toArray, List.set_cons_zero, List.set_cons_succ]
        refine wpAnyH_take (i := 10) (oi := { dst := some 27, op := Go.Op.indexAddr 40 (Go.Operand.tmp 25) (Go.Operand.tmp 26), type := 0, pos := "ref.go:38", after := #[{ on := 8, ground := Go.Ground.data }, { on := 9, ground := Go.Ground.data }, { on := 7, ground := Go.Ground.guard }], guard := some (7, true) }) (v := undef) rfl (by kernel_rfl) (by kernel_rfl) (by kernel_rfl) (fun _ _ _ h => h) (Or.inr ⟨by rfl, rfl⟩) hH ?_
        try simp only [Act.put, List.setIfInBounds_toArray, List.set_cons_zero, List.set_cons_succ]
        refine wpAnyH_take (i := 11) (oi := { dst := some 28, op := Go.Op.fieldAddr 44 (Go.Operand.tmp 27) 2, type := 0, pos := "ref.go:38", after := #[{ on := 10, ground := Go.Ground.data }, { on := 7, ground := Go.Ground.guard }], guard := some (7, true) }) (v := undef) rfl (by kernel_rfl) (by kernel_rfl) (by kernel_rfl) (fun _ _ _ h => h) (Or.inr ⟨by rfl, rfl⟩) hH ?_
        try simp only [Act.put, List.setIfInBounds_toArray, List.set_cons_zero, List.set_cons_succ]
        refine wpAnyH_take (i := 12) (oi := { dst := some 29, op := Go.Op.load 42 (Go.Operand.tmp 28), type := 42, pos := "ref.go:38", after := #[{ on := 11, ground := Go.Ground.data }, { on := 7, ground := Go.Ground.guard }], guard := some (7, true) }) (v := undef) rfl (by kernel_rfl) (by kernel_rfl) (by kernel_rfl) (fun _ _ _ h => h) (Or.inr ⟨by rfl, rfl⟩) hH ?_
        try simp only [Act.put, List.setIfInBounds_toArray, List.set_cons_zero, List.set_cons_succ]
        refine wpAnyH_take (i := 13) (oi := { dst := some 30, op := Go.Op.load 42 (Go.Operand.tmp 7), type := 42, pos := "ref.go:38", after := #[{ on := 7, ground := Go.Ground.guard }], guard := some (7, true) }) (v := undef) rfl (by kernel_rfl) (by kernel_rfl) (by kernel_rfl) (fun _ _ _ h => h) (Or.inr ⟨by rfl, rfl⟩) hH ?_
        try simp only [Act.put, List.setIfInBounds_toArray, List.set_cons_zero, List.set_cons_succ]
        refine wpAnyH_take (i := 14) (oi := { dst := some 31, op := Go.Op.binOp Go.BinOp.eql 42 (Go.Operand.tmp 29) (Go.Operand.tmp 30) 42, type := 4, pos := "ref.go:38", after := #[{ on := 12, ground := Go.Ground.data }, { on := 13, ground := Go.Ground.data }, { on := 7, ground := Go.Ground.guard }], guard := some (7, true) }) (v := undef) rfl (by kernel_rfl) (by kernel_rfl) (by kernel_rfl) (fun _ _ _ h => h) (Or.inr ⟨by rfl, rfl⟩) hH ?_
        try simp only [Act.put, List.setIfInBounds_toArray, List.set_cons_zero, List.set_cons_succ]
        refine wpAnyH_take (i := 15) (oi := { dst := some 32, op := Go.Op.pick (Go.Operand.tmp 24) (Go.Operand.tmp 31) (Go.Operand.const (Go.Value.bool false)), type := 4, pos := "ref.go:38", after := #[{ on := 7, ground := Go.Ground.data }, { on := 14, ground := Go.Ground.data }], guard := none }) (v := ?_) rfl (by kernel_rfl) (by kernel_rfl) (by kernel_rfl) (fun _ _ _ h => h) (Or.inl ⟨by rfl, ?hy⟩) hH ?_
        case hy => (intro w hSw; (try dsimp only at hSw); go_simp; try with_reducible rfl)
        try simp only [Act.put, List.setIfInBounds_toArray, List.set_cons_zero, List.set_cons_succ]
        refine wpAnyH_done (by kernel_rfl) ?_ _
        have hb5 := below_then hb hb.size hH
        have hB5 := hB.after hH
        have hB15 := hB1.after hH
        have hB25 := hB2.after hH
        have hO5 := hO.after hH
        have hz5 := hH.size
        clear hH p0 p1 p2 q0 q1 q2 y0 y1 y2 y3 y4 y5 y6 hb hB hB1 hB2 hO hq1
        go_wp2
        go_roundw
        case rel => exact ⟨k + 1, by omega, by go_num, hb5, hB5, hB15, hB25, by rw [HF.out]; exact hO5, by omega⟩
        case measure => simp [intOf]; omega
    · have hkl : k = ls.length := by omega
      subst hkl
      rw [List.take_length] at hO
      obtain ⟨fr, hfr⟩ : ∃ fr, (pickL ls a d).map (·.frm) = fr := ⟨_, rfl⟩
      rw [hfr] at hO
      obtain ⟨A9, cap9, rfl⟩ := hO.shape
      obtain ⟨n, hn⟩ : ∃ n, fr.length = n := ⟨_, rfl⟩
      have HSL := hide (hO.sl encI_len)
      have HN : Hid (strongL c ls a d = (decide (0 < n) && decide (2 * totalC c ≤ 3 * weightC c fr))) := by unfold Hid strongL; rw [hfr, ← hn, ← hfr, List.length_map]
      have hw2 : 0 ≤ weightC c fr ∧ weightC c fr ≤ 13194139533312 := sumC_bd c (fun i => memI fr (i.val : Int))
      have ht2 : 0 ≤ totalC c ∧ totalC c ≤ 13194139533312 := sumC_bd c (fun _ => true)
      obtain ⟨wg, hwg⟩ : ∃ wg, weightC c fr = wg := ⟨_, rfl⟩
      obtain ⟨te, hte⟩ : ∃ te, totalC c = te := ⟨_, rfl⟩
      have HWG := hide hwg
      have HTE := hide hte
      rw [hn]
      have HSL2 : Hid (Sl 1 encI wr (.slice A9 n cap9) fr) := by unfold Hid; have := HSL.out; rw [hn] at this; exact this
      rw [hwg, hte] at HN
      rw [hwg] at hw2
      rw [hte] at ht2
      clear hlt hk hA hO hfr hwg hte HSL hn
      obtain ⟨wq, hwq⟩ : ∃ wq, wq = wr := ⟨_, rfl⟩
      subst hwq
      have r0 := hB.ext 0 rfl
      have r1 := hB.ext 1 rfl
      have r2 := hB.ext 2 rfl
      have r3 := hB.ext 3 rfl
      have r4 := hB.ext 4 rfl
      by_cases h0 : 0 < n
      · have hd : decide ((n : Int) > 0) = true := decide_eq_true (by omega)
        have hd' : decide (0 < n) = true := decide_eq_true h0
        have m1 : IntKind.i64.wrap (3 * wg) = 3 * wg := IntWalk.i64_in _ (by omega)
        have m2 : IntKind.i64.wrap (2 * te) = 2 * te := IntWalk.i64_in _ (by omega)
        have HE : Hid (strongL c ls a d = decide (2 * te ≤ 3 * wg)) := by unfold Hid; rw [HN.out, hd', Bool.true_and]
        by_cases h1 : 2 * te ≤ 3 * wg
        · have hd2 : decide (3 * wg ≥ 2 * te) = true := decide_eq_true h1
          have HE2 : Hid (strongL c ls a d = true) := by unfold Hid; rw [HE.out]; exact decide_eq_true h1
          go_wp2
          refine wp_region_held_drew (S := fun w' => Below wq.heap.size wq w') (by kernel_rfl) (below_drew wq) (fun hH => ?_)
          refine wpAnyH_take (i := 0) (oi := { dst := some 41, op := Go.Op.move (Go.Operand.tmp 9), type := 22, pos := "ref.go:42", after := #[], guard := none }) (v := ?_) rfl (by kernel_rfl) (by kernel_rfl) (by kernel_rfl) (fun _ _ _ h => h) (Or.inl ⟨by rfl, ?hy⟩) hH ?_
          case hy => (intro w hSw; (try dsimp only at hSw); go_simp; try with_reducible rfl)
          try simp only [Act.put, List.setIfInBounds_toArray, List.set_cons_zero, List.set_cons_succ]
          refine wpAnyH_take (i := 1) (oi := { dst := some 42, op := Go.Op.call { callee := Go.Callee.builtin Go.Builtin.len, args := #[Go.Operand.tmp 41], argTypes := #[22] }, type := 3, pos := "ref.go:42", after := #[{ on := 0, ground := Go.Ground.data }], guard := none }) (v := ?_) rfl (by kernel_rfl) (by kernel_rfl) (by kernel_rfl) (fun _ _ _ h => h) (Or.inl ⟨by rfl, ?hy⟩) hH ?_
          case hy => (intro w hSw; (try dsimp only at hSw); go_simp; try with_reducible rfl)
          try simp only [Act.put, List.setIfInBounds_toArray, List.set_cons_zero, List.set_cons_succ]
          refine wpAnyH_take (i := 2) (oi := { dst := some 43, op := Go.Op.binOp Go.BinOp.gtr 3 (Go.Operand.tmp 42) (Go.Operand.const (Go.Value.int Go.IntKind.i64 0)) 3, type := 4, pos := "ref.go:42", after := #[{ on := 1, ground := Go.Ground.data }], guard := none }) (v := ?_) rfl (by kernel_rfl) (by kernel_rfl) (by kernel_rfl) (fun _ _ _ h => h) (Or.inl ⟨by rfl, ?hy⟩) hH ?_
          case hy => (intro w hSw; (try dsimp only at hSw); go_simp; try with_reducible rfl)
          try simp only [Act.put, List.setIfInBounds_toArray, List.set_cons_zero, List.set_cons_succ]
          refine wpAnyH_take (i := 3) (oi := { dst := some 44, op := Go.Op.move (Go.Operand.tmp 43), type := 4, pos := "ref.go:42", after := #[{ on := 2, ground := Go.Ground.data }], guard := none }) (v := ?_) rfl (by kernel_rfl) (by kernel_rfl) (by kernel_rfl) (fun _ _ _ h => h) (Or.inl ⟨by rfl, ?hy⟩) hH ?_
          case hy => (intro w hSw; (try dsimp only at hSw); go_simp; try with_reducible rfl)
          try simp only [Act.put, List.setIfInBounds_toArray, List.set_cons_zero, List.set_cons_succ]
          refine wpAnyH_take (i := 4) (oi := { dst := some 45, op := Go.Op.load 25 (Go.Operand.tmp 4), type := 25, pos := "ref.go:42", after := #[{ on := 3, ground := Go.Ground.guard }], guard := some (3, true) }) (v := ?_) rfl (by kernel_rfl) (by kernel_rfl) (by kernel_rfl) (fun _ _ _ h => h) (Or.inl ⟨by rfl, ?hy⟩) hH ?_
          case hy => (intro w hSw; (try dsimp only at hSw); go_simp; try with_reducible rfl)
          try simp only [Act.put, List.setIfInBounds_toArray, List.set_cons_zero, List.set_cons_succ]
          refine wpAnyH_take (i := 5) (oi := { dst := some 46, op := Go.Op.move (Go.Operand.tmp 9), type := 22, pos := "ref.go:42", after := #[{ on := 3, ground := Go.Ground.guard }], guard := some (3, true) }) (v := ?_) rfl (by kernel_rfl) (by kernel_rfl) (by kernel_rfl) (fun _ _ _ h => h) (Or.inl ⟨by rfl, ?hy⟩) hH ?_
          case hy => (intro w hSw; (try dsimp only at hSw); go_simp; try with_reducible rfl)
          try simp only [Act.put, List.setIfInBounds_toArray, List.set_cons_zero, List.set_cons_succ]
          refine wpAnyH_take (i := 8) (oi := { dst := some 49, op := Go.Op.load 25 (Go.Operand.tmp 4), type := 25, pos := "ref.go:42", after := #[{ on := 3, ground := Go.Ground.guard }], guard := some (3, true) }) (v := ?_) rfl (by kernel_rfl) (by kernel_rfl) (by kernel_rfl) (fun _ _ _ h => h) (Or.inl ⟨by rfl, ?hy⟩) hH ?_
          case hy => (intro w hSw; (try dsimp only at hSw); go_simp; try with_reducible rfl)
          try simp only [Act.put, List.setIfInBounds_toArray, List.set_cons_zero, List.set_cons_succ]
          refine wpAnyH_ready (rs := [6]) (by kernel_rfl) (by simp) ?_
          refine (AllReadyH.cons (o := { dst := some 47, op := Go.Op.call { callee := Go.Callee.value (Go.Operand.func 110), args := #[Go.Operand.tmp 45, Go.Operand.tmp 46], argTypes := #[25, 22] }, type := 3, pos := "ref.go:42", after := #[{ on := 4, ground := Go.Ground.data }, { on := 5, ground := Go.Ground.data }, { on := 3, ground := Go.Ground.chain }, { on := 3, ground := Go.Ground.guard }], guard := some (3, true) }) rfl (fun K hK => ?_) AllReadyH.nil)
          go_simp
          go_at_call 110
          refine (rweight_any c _ fr _ _ ((HC.out.after hb).after hH) (HSL2.out.after hH)).mono ?_
          rw [HWG.out]
          rintro e w5 ⟨rfl, hw5⟩
          try go_simp
          refine hK.out _ _ (below_ext hH hw5) (fun hH2 => ?_)
          clear hK K hH
          have hH := hH2
          clear hH2
          try simp only [Act.put, List.setIfInBounds_toArray, List.set_cons_zero, List.set_cons_succ]
          refine wpAnyH_take (i := 7) (oi := { dst := some 48, op := Go.Op.binOp Go.BinOp.mul 3 (Go.Operand.const (Go.Value.int Go.IntKind.i64 3)) (Go.Operand.tmp 47) 3, type := 3, pos := "ref.go:42", after := #[{ on := 6, ground := Go.Ground.data }, { on := 3, ground := Go.Ground.guard }], guard := some (3, true) }) (v := ?_) rfl (by kernel_rfl) (by kernel_rfl) (by kernel_rfl) (fun _ _ _ h => h) (Or.inl ⟨by rfl, ?hy⟩) hH ?_
          case hy => (intro w hSw; (try dsimp only at hSw); go_simp; try with_reducible rfl)
          try simp only [Act.put, List.setIfInBounds_toArray, List.set_cons_zero, List.set_cons_succ]
          refine wpAnyH_ready (rs := [9]) (by kernel_rfl) (by simp) ?_
          refine (AllReadyH.cons (o := { dst := some 50, op := Go.Op.call { callee := Go.Callee.value (Go.Operand.func 111), args := #[Go.Operand.tmp 49], argTypes := #[25] }, type := 3, pos := "ref.go:42", after := #[{ on := 8, ground := Go.Ground.data }, { on := 6, ground := Go.Ground.chain }, { on := 3, ground := Go.Ground.guard }], guard := some (3, true) }) rfl (fun K hK => ?_) AllReadyH.nil)
          go_simp
          go_at_call 111
          refine (rtotal_any c _ _ ((HC.out.after hb).after hH)).mono ?_
          rw [HTE.out]
          rintro e w6 ⟨rfl, hw6⟩
          try go_simp
          refine hK.out _ _ (below_ext hH hw6) (fun hH2 => ?_)
          clear hK K hH
          have hH := hH2
          clear hH2
          try simp only [Act.put, List.setIfInBounds_toArray, List.set_cons_zero, List.set_cons_succ]
          refine wpAnyH_take (i := 10) (oi := { dst := some 51, op := Go.Op.binOp Go.BinOp.mul 3 (Go.Operand.const (Go.Value.int Go.IntKind.i64 2)) (Go.Operand.tmp 50) 3, type := 3, pos := "ref.go:42", after := #[{ on := 9, ground := Go.Ground.data }, { on := 3, ground := Go.Ground.guard }], guard := some (3, true) }) (v := ?_) rfl (by kernel_rfl) (by kernel_rfl) (by kernel_rfl) (fun _ _ _ h => h) (Or.inl ⟨by rfl, ?hy⟩) hH ?_
          case hy => (intro w hSw; (try dsimp only at hSw); go_simp; try with_reducible rfl)
          try simp only [Act.put, List.setIfInBounds_toArray, List.set_cons_zero, List.set_cons_succ]
          refine wpAnyH_take (i := 11) (oi := { dst := some 52, op := Go.Op.binOp Go.BinOp.geq 3 (Go.Operand.tmp 48) (Go.Operand.tmp 51) 3, type := 4, pos := "ref.go:42", after := #[{ on := 7, ground := Go.Ground.data }, { on := 10, ground := Go.Ground.data }, { on := 3, ground := Go.Ground.guard }], guard := some (3, true) }) (v := ?_) rfl (by kernel_rfl) (by kernel_rfl) (by kernel_rfl) (fun _ _ _ h => h) (Or.inl ⟨by rfl, ?hy⟩) hH ?_
          case hy => (intro w hSw; (try dsimp only at hSw); go_simp; try with_reducible rfl)
          try simp only [Act.put, List.setIfInBounds_toArray, List.set_cons_zero, List.set_cons_succ]
          refine wpAnyH_take (i := 12) (oi := { dst := some 53, op := Go.Op.pick (Go.Operand.tmp 44) (Go.Operand.tmp 52) (Go.Operand.const (Go.Value.bool false)), type := 4, pos := "ref.go:42", after := #[{ on := 3, ground := Go.Ground.data }, { on := 11, ground := Go.Ground.data }], guard := none }) (v := ?_) rfl (by kernel_rfl) (by kernel_rfl) (by kernel_rfl) (fun _ _ _ h => h) (Or.inl ⟨by rfl, ?hy⟩) hH ?_
          case hy => (intro w hSw; (try dsimp only at hSw); go_simp; try with_reducible rfl)
          try simp only [Act.put, List.setIfInBounds_toArray, List.set_cons_zero, List.set_cons_succ]
          refine wpAnyH_take (i := 13) (oi := { dst := some 8, op := Go.Op.assign (Go.Operand.tmp 53), type := 4, pos := "ref.go:42", after := #[{ on := 12, ground := Go.Ground.data }, { on := 9, ground := Go.Ground.chain }, { on := 0, ground := Go.Ground.phase }, { on := 1, ground := Go.Ground.phase }, { on := 2, ground := Go.Ground.phase }, { on := 3, ground := Go.Ground.phase }, { on := 4, ground := Go.Ground.phase }, { on := 5, ground := Go.Ground.phase }, { on := 6, ground := Go.Ground.phase }, { on := 7, ground := Go.Ground.phase }, { on := 8, ground := Go.Ground.phase }, { on := 9, ground := Go.Ground.phase }, { on := 10, ground := Go.Ground.phase }, { on := 11, ground := Go.Ground.phase }, { on := 12, ground := Go.Ground.phase }], guard := none }) (v := ?_) rfl (by kernel_rfl) (by kernel_rfl) (by kernel_rfl) (fun _ _ _ h => h) (Or.inl ⟨by rfl, ?hy⟩) hH ?_
          case hy => (intro w hSw; (try dsimp only at hSw); go_simp; try with_reducible rfl)
          try simp only [Act.put, List.setIfInBounds_toArray, List.set_cons_zero, List.set_cons_succ]
          refine wpAnyH_done (by kernel_rfl) ?_ _
          all_goals
            have hbz := below_then hb hb.size hH
            clear hH
            go_wp2
            go_ret
            exact ⟨by rw [HE2.out]; rfl, hbz⟩
        · have hd2 : decide (3 * wg ≥ 2 * te) = false := decide_eq_false h1
          have HE2 : Hid (strongL c ls a d = false) := by unfold Hid; rw [HE.out]; exact decide_eq_false h1
          go_wp2
          refine wp_region_held_drew (S := fun w' => Below wq.heap.size wq w') (by kernel_rfl) (below_drew wq) (fun hH => ?_)
          refine wpAnyH_take (i := 0) (oi := { dst := some 41, op := Go.Op.move (Go.Operand.tmp 9), type := 22, pos := "ref.go:42", after := #[], guard := none }) (v := ?_) rfl (by kernel_rfl) (by kernel_rfl) (by kernel_rfl) (fun _ _ _ h => h) (Or.inl ⟨by rfl, ?hy⟩) hH ?_
          case hy => (intro w hSw; (try dsimp only at hSw); go_simp; try with_reducible rfl)
          try simp only [Act.put, List.setIfInBounds_toArray, List.set_cons_zero, List.set_cons_succ]
          refine wpAnyH_take (i := 1) (oi := { dst := some 42, op := Go.Op.call { callee := Go.Callee.builtin Go.Builtin.len, args := #[Go.Operand.tmp 41], argTypes := #[22] }, type := 3, pos := "ref.go:42", after := #[{ on := 0, ground := Go.Ground.data }], guard := none }) (v := ?_) rfl (by kernel_rfl) (by kernel_rfl) (by kernel_rfl) (fun _ _ _ h => h) (Or.inl ⟨by rfl, ?hy⟩) hH ?_
          case hy => (intro w hSw; (try dsimp only at hSw); go_simp; try with_reducible rfl)
          try simp only [Act.put, List.setIfInBounds_toArray, List.set_cons_zero, List.set_cons_succ]
          refine wpAnyH_take (i := 2) (oi := { dst := some 43, op := Go.Op.binOp Go.BinOp.gtr 3 (Go.Operand.tmp 42) (Go.Operand.const (Go.Value.int Go.IntKind.i64 0)) 3, type := 4, pos := "ref.go:42", after := #[{ on := 1, ground := Go.Ground.data }], guard := none }) (v := ?_) rfl (by kernel_rfl) (by kernel_rfl) (by kernel_rfl) (fun _ _ _ h => h) (Or.inl ⟨by rfl, ?hy⟩) hH ?_
          case hy => (intro w hSw; (try dsimp only at hSw); go_simp; try with_reducible rfl)
          try simp only [Act.put, List.setIfInBounds_toArray, List.set_cons_zero, List.set_cons_succ]
          refine wpAnyH_take (i := 3) (oi := { dst := some 44, op := Go.Op.move (Go.Operand.tmp 43), type := 4, pos := "ref.go:42", after := #[{ on := 2, ground := Go.Ground.data }], guard := none }) (v := ?_) rfl (by kernel_rfl) (by kernel_rfl) (by kernel_rfl) (fun _ _ _ h => h) (Or.inl ⟨by rfl, ?hy⟩) hH ?_
          case hy => (intro w hSw; (try dsimp only at hSw); go_simp; try with_reducible rfl)
          try simp only [Act.put, List.setIfInBounds_toArray, List.set_cons_zero, List.set_cons_succ]
          refine wpAnyH_take (i := 4) (oi := { dst := some 45, op := Go.Op.load 25 (Go.Operand.tmp 4), type := 25, pos := "ref.go:42", after := #[{ on := 3, ground := Go.Ground.guard }], guard := some (3, true) }) (v := ?_) rfl (by kernel_rfl) (by kernel_rfl) (by kernel_rfl) (fun _ _ _ h => h) (Or.inl ⟨by rfl, ?hy⟩) hH ?_
          case hy => (intro w hSw; (try dsimp only at hSw); go_simp; try with_reducible rfl)
          try simp only [Act.put, List.setIfInBounds_toArray, List.set_cons_zero, List.set_cons_succ]
          refine wpAnyH_take (i := 5) (oi := { dst := some 46, op := Go.Op.move (Go.Operand.tmp 9), type := 22, pos := "ref.go:42", after := #[{ on := 3, ground := Go.Ground.guard }], guard := some (3, true) }) (v := ?_) rfl (by kernel_rfl) (by kernel_rfl) (by kernel_rfl) (fun _ _ _ h => h) (Or.inl ⟨by rfl, ?hy⟩) hH ?_
          case hy => (intro w hSw; (try dsimp only at hSw); go_simp; try with_reducible rfl)
          try simp only [Act.put, List.setIfInBounds_toArray, List.set_cons_zero, List.set_cons_succ]
          refine wpAnyH_take (i := 8) (oi := { dst := some 49, op := Go.Op.load 25 (Go.Operand.tmp 4), type := 25, pos := "ref.go:42", after := #[{ on := 3, ground := Go.Ground.guard }], guard := some (3, true) }) (v := ?_) rfl (by kernel_rfl) (by kernel_rfl) (by kernel_rfl) (fun _ _ _ h => h) (Or.inl ⟨by rfl, ?hy⟩) hH ?_
          case hy => (intro w hSw; (try dsimp only at hSw); go_simp; try with_reducible rfl)
          try simp only [Act.put, List.setIfInBounds_toArray, List.set_cons_zero, List.set_cons_succ]
          refine wpAnyH_ready (rs := [6]) (by kernel_rfl) (by simp) ?_
          refine (AllReadyH.cons (o := { dst := some 47, op := Go.Op.call { callee := Go.Callee.value (Go.Operand.func 110), args := #[Go.Operand.tmp 45, Go.Operand.tmp 46], argTypes := #[25, 22] }, type := 3, pos := "ref.go:42", after := #[{ on := 4, ground := Go.Ground.data }, { on := 5, ground := Go.Ground.data }, { on := 3, ground := Go.Ground.chain }, { on := 3, ground := Go.Ground.guard }], guard := some (3, true) }) rfl (fun K hK => ?_) AllReadyH.nil)
          go_simp
          go_at_call 110
          refine (rweight_any c _ fr _ _ ((HC.out.after hb).after hH) (HSL2.out.after hH)).mono ?_
          rw [HWG.out]
          rintro e w5 ⟨rfl, hw5⟩
          try go_simp
          refine hK.out _ _ (below_ext hH hw5) (fun hH2 => ?_)
          clear hK K hH
          have hH := hH2
          clear hH2
          try simp only [Act.put, List.setIfInBounds_toArray, List.set_cons_zero, List.set_cons_succ]
          refine wpAnyH_take (i := 7) (oi := { dst := some 48, op := Go.Op.binOp Go.BinOp.mul 3 (Go.Operand.const (Go.Value.int Go.IntKind.i64 3)) (Go.Operand.tmp 47) 3, type := 3, pos := "ref.go:42", after := #[{ on := 6, ground := Go.Ground.data }, { on := 3, ground := Go.Ground.guard }], guard := some (3, true) }) (v := ?_) rfl (by kernel_rfl) (by kernel_rfl) (by kernel_rfl) (fun _ _ _ h => h) (Or.inl ⟨by rfl, ?hy⟩) hH ?_
          case hy => (intro w hSw; (try dsimp only at hSw); go_simp; try with_reducible rfl)
          try simp only [Act.put, List.setIfInBounds_toArray, List.set_cons_zero, List.set_cons_succ]
          refine wpAnyH_ready (rs := [9]) (by kernel_rfl) (by simp) ?_
          refine (AllReadyH.cons (o := { dst := some 50, op := Go.Op.call { callee := Go.Callee.value (Go.Operand.func 111), args := #[Go.Operand.tmp 49], argTypes := #[25] }, type := 3, pos := "ref.go:42", after := #[{ on := 8, ground := Go.Ground.data }, { on := 6, ground := Go.Ground.chain }, { on := 3, ground := Go.Ground.guard }], guard := some (3, true) }) rfl (fun K hK => ?_) AllReadyH.nil)
          go_simp
          go_at_call 111
          refine (rtotal_any c _ _ ((HC.out.after hb).after hH)).mono ?_
          rw [HTE.out]
          rintro e w6 ⟨rfl, hw6⟩
          try go_simp
          refine hK.out _ _ (below_ext hH hw6) (fun hH2 => ?_)
          clear hK K hH
          have hH := hH2
          clear hH2
          try simp only [Act.put, List.setIfInBounds_toArray, List.set_cons_zero, List.set_cons_succ]
          refine wpAnyH_take (i := 10) (oi := { dst := some 51, op := Go.Op.binOp Go.BinOp.mul 3 (Go.Operand.const (Go.Value.int Go.IntKind.i64 2)) (Go.Operand.tmp 50) 3, type := 3, pos := "ref.go:42", after := #[{ on := 9, ground := Go.Ground.data }, { on := 3, ground := Go.Ground.guard }], guard := some (3, true) }) (v := ?_) rfl (by kernel_rfl) (by kernel_rfl) (by kernel_rfl) (fun _ _ _ h => h) (Or.inl ⟨by rfl, ?hy⟩) hH ?_
          case hy => (intro w hSw; (try dsimp only at hSw); go_simp; try with_reducible rfl)
          try simp only [Act.put, List.setIfInBounds_toArray, List.set_cons_zero, List.set_cons_succ]
          refine wpAnyH_take (i := 11) (oi := { dst := some 52, op := Go.Op.binOp Go.BinOp.geq 3 (Go.Operand.tmp 48) (Go.Operand.tmp 51) 3, type := 4, pos := "ref.go:42", after := #[{ on := 7, ground := Go.Ground.data }, { on := 10, ground := Go.Ground.data }, { on := 3, ground := Go.Ground.guard }], guard := some (3, true) }) (v := ?_) rfl (by kernel_rfl) (by kernel_rfl) (by kernel_rfl) (fun _ _ _ h => h) (Or.inl ⟨by rfl, ?hy⟩) hH ?_
          case hy => (intro w hSw; (try dsimp only at hSw); go_simp; try with_reducible rfl)
          try simp only [Act.put, List.setIfInBounds_toArray, List.set_cons_zero, List.set_cons_succ]
          refine wpAnyH_take (i := 12) (oi := { dst := some 53, op := Go.Op.pick (Go.Operand.tmp 44) (Go.Operand.tmp 52) (Go.Operand.const (Go.Value.bool false)), type := 4, pos := "ref.go:42", after := #[{ on := 3, ground := Go.Ground.data }, { on := 11, ground := Go.Ground.data }], guard := none }) (v := ?_) rfl (by kernel_rfl) (by kernel_rfl) (by kernel_rfl) (fun _ _ _ h => h) (Or.inl ⟨by rfl, ?hy⟩) hH ?_
          case hy => (intro w hSw; (try dsimp only at hSw); go_simp; try with_reducible rfl)
          try simp only [Act.put, List.setIfInBounds_toArray, List.set_cons_zero, List.set_cons_succ]
          refine wpAnyH_take (i := 13) (oi := { dst := some 8, op := Go.Op.assign (Go.Operand.tmp 53), type := 4, pos := "ref.go:42", after := #[{ on := 12, ground := Go.Ground.data }, { on := 9, ground := Go.Ground.chain }, { on := 0, ground := Go.Ground.phase }, { on := 1, ground := Go.Ground.phase }, { on := 2, ground := Go.Ground.phase }, { on := 3, ground := Go.Ground.phase }, { on := 4, ground := Go.Ground.phase }, { on := 5, ground := Go.Ground.phase }, { on := 6, ground := Go.Ground.phase }, { on := 7, ground := Go.Ground.phase }, { on := 8, ground := Go.Ground.phase }, { on := 9, ground := Go.Ground.phase }, { on := 10, ground := Go.Ground.phase }, { on := 11, ground := Go.Ground.phase }, { on := 12, ground := Go.Ground.phase }], guard := none }) (v := ?_) rfl (by kernel_rfl) (by kernel_rfl) (by kernel_rfl) (fun _ _ _ h => h) (Or.inl ⟨by rfl, ?hy⟩) hH ?_
          case hy => (intro w hSw; (try dsimp only at hSw); go_simp; try with_reducible rfl)
          try simp only [Act.put, List.setIfInBounds_toArray, List.set_cons_zero, List.set_cons_succ]
          refine wpAnyH_done (by kernel_rfl) ?_ _
          all_goals
            have hbz := below_then hb hb.size hH
            clear hH
            go_wp2
            go_ret
            exact ⟨by rw [HE2.out]; rfl, hbz⟩
      · have hd : decide ((n : Int) > 0) = false := decide_eq_false (by omega)
        have hd' : decide (0 < n) = false := decide_eq_false h0
        have HE2 : Hid (strongL c ls a d = false) := by unfold Hid; rw [HN.out, hd', Bool.false_and]
        go_wp2
        refine wp_region_held_drew (S := fun w' => Below wq.heap.size wq w') (by kernel_rfl) (below_drew wq) (fun hH => ?_)
        refine wpAnyH_take (i := 0) (oi := { dst := some 41, op := Go.Op.move (Go.Operand.tmp 9), type := 22, pos := "ref.go:42", after := #[], guard := none }) (v := ?_) rfl (by kernel_rfl) (by kernel_rfl) (by kernel_rfl) (fun _ _ _ h => h) (Or.inl ⟨by rfl, ?hy⟩) hH ?_
        case hy => (intro w hSw; (try dsimp only at hSw); go_simp; try with_reducible rfl)
        try simp only [Act.put, List.setIfInBounds_toArray, List.set_cons_zero, List.set_cons_succ]
        refine wpAnyH_take (i := 1) (oi := { dst := some 42, op := Go.Op.call { callee := Go.Callee.builtin Go.Builtin.len, args := #[Go.Operand.tmp 41], argTypes := #[22] }, type := 3, pos := "ref.go:42", after := #[{ on := 0, ground := Go.Ground.data }], guard := none }) (v := ?_) rfl (by kernel_rfl) (by kernel_rfl) (by kernel_rfl) (fun _ _ _ h => h) (Or.inl ⟨by rfl, ?hy⟩) hH ?_
        case hy => (intro w hSw; (try dsimp only at hSw); go_simp; try with_reducible rfl)
        try simp only [Act.put, List.setIfInBounds_toArray, List.set_cons_zero, List.set_cons_succ]
        refine wpAnyH_take (i := 2) (oi := { dst := some 43, op := Go.Op.binOp Go.BinOp.gtr 3 (Go.Operand.tmp 42) (Go.Operand.const (Go.Value.int Go.IntKind.i64 0)) 3, type := 4, pos := "ref.go:42", after := #[{ on := 1, ground := Go.Ground.data }], guard := none }) (v := ?_) rfl (by kernel_rfl) (by kernel_rfl) (by kernel_rfl) (fun _ _ _ h => h) (Or.inl ⟨by rfl, ?hy⟩) hH ?_
        case hy => (intro w hSw; (try dsimp only at hSw); go_simp; try with_reducible rfl)
        try simp only [Act.put, List.setIfInBounds_toArray, List.set_cons_zero, List.set_cons_succ]
        refine wpAnyH_take (i := 3) (oi := { dst := some 44, op := Go.Op.move (Go.Operand.tmp 43), type := 4, pos := "ref.go:42", after := #[{ on := 2, ground := Go.Ground.data }], guard := none }) (v := ?_) rfl (by kernel_rfl) (by kernel_rfl) (by kernel_rfl) (fun _ _ _ h => h) (Or.inl ⟨by rfl, ?hy⟩) hH ?_
        case hy => (intro w hSw; (try dsimp only at hSw); go_simp; try with_reducible rfl)
        try simp only [Act.put, List.setIfInBounds_toArray, List.set_cons_zero, List.set_cons_succ]
        refine wpAnyH_take (i := 4) (oi := { dst := some 45, op := Go.Op.load 25 (Go.Operand.tmp 4), type := 25, pos := "ref.go:42", after := #[{ on := 3, ground := Go.Ground.guard }], guard := some (3, true) }) (v := undef) rfl (by kernel_rfl) (by kernel_rfl) (by kernel_rfl) (fun _ _ _ h => h) (Or.inr ⟨by rfl, rfl⟩) hH ?_
        try simp only [Act.put, List.setIfInBounds_toArray, List.set_cons_zero, List.set_cons_succ]
        refine wpAnyH_take (i := 5) (oi := { dst := some 46, op := Go.Op.move (Go.Operand.tmp 9), type := 22, pos := "ref.go:42", after := #[{ on := 3, ground := Go.Ground.guard }], guard := some (3, true) }) (v := undef) rfl (by kernel_rfl) (by kernel_rfl) (by kernel_rfl) (fun _ _ _ h => h) (Or.inr ⟨by rfl, rfl⟩) hH ?_
        try simp only [Act.put, List.setIfInBounds_toArray, List.set_cons_zero, List.set_cons_succ]
        refine wpAnyH_take (i := 6) (oi := { dst := some 47, op := Go.Op.call { callee := Go.Callee.value (Go.Operand.func 110), args := #[Go.Operand.tmp 45, Go.Operand.tmp 46], argTypes := #[25, 22] }, type := 3, pos := "ref.go:42", after := #[{ on := 4, ground := Go.Ground.data }, { on := 5, ground := Go.Ground.data }, { on := 3, ground := Go.Ground.chain }, { on := 3, ground := Go.Ground.guard }], guard := some (3, true) }) (v := undef) rfl (by kernel_rfl) (by kernel_rfl) (by kernel_rfl) (fun _ _ _ h => h) (Or.inr ⟨by rfl, rfl⟩) hH ?_
        try simp only [Act.put, List.setIfInBounds_toArray, List.set_cons_zero, List.set_cons_succ]
        refine wpAnyH_take (i := 7) (oi := { dst := some 48, op := Go.Op.binOp Go.BinOp.mul 3 (Go.Operand.const (Go.Value.int Go.IntKind.i64 3)) (Go.Operand.tmp 47) 3, type := 3, pos := "ref.go:42", after := #[{ on := 6, ground := Go.Ground.data }, { on := 3, ground := Go.Ground.guard }], guard := some (3, true) }) (v := undef) rfl (by kernel_rfl) (by kernel_rfl) (by kernel_rfl) (fun _ _ _ h => h) (Or.inr ⟨by rfl, rfl⟩) hH ?_
        try simp only [Act.put, List.setIfInBounds_toArray, List.set_cons_zero, List.set_cons_succ]
        refine wpAnyH_take (i := 8) (oi := { dst := some 49, op := Go.Op.load 25 (Go.Operand.tmp 4), type := 25, pos := "ref.go:42", after := #[{ on := 3, ground := Go.Ground.guard }], guard := some (3, true) }) (v := undef) rfl (by kernel_rfl) (by kernel_rfl) (by kernel_rfl) (fun _ _ _ h => h) (Or.inr ⟨by rfl, rfl⟩) hH ?_
        try simp only [Act.put, List.setIfInBounds_toArray, List.set_cons_zero, List.set_cons_succ]
        refine wpAnyH_take (i := 9) (oi := { dst := some 50, op := Go.Op.call { callee := Go.Callee.value (Go.Operand.func 111), args := #[Go.Operand.tmp 49], argTypes := #[25] }, type := 3, pos := "ref.go:42", after := #[{ on := 8, ground := Go.Ground.data }, { on := 6, ground := Go.Ground.chain }, { on := 3, ground := Go.Ground.guard }], guard := some (3, true) }) (v := undef) rfl (by kernel_rfl) (by kernel_rfl) (by kernel_rfl) (fun _ _ _ h => h) (Or.inr ⟨by rfl, rfl⟩) hH ?_
        try simp only [Act.put, List.setIfInBounds_toArray, List.set_cons_zero, List.set_cons_succ]
        refine wpAnyH_take (i := 10) (oi := { dst := some 51, op := Go.Op.binOp Go.BinOp.mul 3 (Go.Operand.const (Go.Value.int Go.IntKind.i64 2)) (Go.Operand.tmp 50) 3, type := 3, pos := "ref.go:42", after := #[{ on := 9, ground := Go.Ground.data }, { on := 3, ground := Go.Ground.guard }], guard := some (3, true) }) (v := undef) rfl (by kernel_rfl) (by kernel_rfl) (by kernel_rfl) (fun _ _ _ h => h) (Or.inr ⟨by rfl, rfl⟩) hH ?_
        try simp only [Act.put, List.setIfInBounds_toArray, List.set_cons_zero, List.set_cons_succ]
        refine wpAnyH_take (i := 11) (oi := { dst := some 52, op := Go.Op.binOp Go.BinOp.geq 3 (Go.Operand.tmp 48) (Go.Operand.tmp 51) 3, type := 4, pos := "ref.go:42", after := #[{ on := 7, ground := Go.Ground.data }, { on := 10, ground := Go.Ground.data }, { on := 3, ground := Go.Ground.guard }], guard := some (3, true) }) (v := undef) rfl (by kernel_rfl) (by kernel_rfl) (by kernel_rfl) (fun _ _ _ h => h) (Or.inr ⟨by rfl, rfl⟩) hH ?_
        try simp only [Act.put, List.setIfInBounds_toArray, List.set_cons_zero, List.set_cons_succ]
        refine wpAnyH_take (i := 12) (oi := { dst := some 53, op := Go.Op.pick (Go.Operand.tmp 44) (Go.Operand.tmp 52) (Go.Operand.const (Go.Value.bool false)), type := 4, pos := "ref.go:42", after := #[{ on := 3, ground := Go.Ground.data }, { on := 11, ground := Go.Ground.data }], guard := none }) (v := ?_) rfl (by kernel_rfl) (by kernel_rfl) (by kernel_rfl) (fun _ _ _ h => h) (Or.inl ⟨by rfl, ?hy⟩) hH ?_
        case hy => (intro w hSw; (try dsimp only at hSw); go_simp; try with_reducible rfl)
        try simp only [Act.put, List.setIfInBounds_toArray, List.set_cons_zero, List.set_cons_succ]
        refine wpAnyH_take (i := 13) (oi := { dst := some 8, op := Go.Op.assign (Go.Operand.tmp 53), type := 4, pos := "ref.go:42", after := #[{ on := 12, ground := Go.Ground.data }, { on := 9, ground := Go.Ground.chain }, { on := 0, ground := Go.Ground.phase }, { on := 1, ground := Go.Ground.phase }, { on := 2, ground := Go.Ground.phase }, { on := 3, ground := Go.Ground.phase }, { on := 4, ground := Go.Ground.phase }, { on := 5, ground := Go.Ground.phase }, { on := 6, ground := Go.Ground.phase }, { on := 7, ground := Go.Ground.phase }, { on := 8, ground := Go.Ground.phase }, { on := 9, ground := Go.Ground.phase }, { on := 10, ground := Go.Ground.phase }, { on := 11, ground := Go.Ground.phase }, { on := 12, ground := Go.Ground.phase }], guard := none }) (v := ?_) rfl (by kernel_rfl) (by kernel_rfl) (by kernel_rfl) (fun _ _ _ h => h) (Or.inl ⟨by rfl, ?hy⟩) hH ?_
        case hy => (intro w hSw; (try dsimp only at hSw); go_simp; try with_reducible rfl)
        try simp only [Act.put, List.setIfInBounds_toArray, List.set_cons_zero, List.set_cons_succ]
        refine wpAnyH_done (by kernel_rfl) ?_ _
        all_goals
          have hbz := below_then hb hb.size hH
          clear hH
          go_wp2
          go_ret
          exact ⟨by rw [HE2.out]; rfl, hbz⟩
set_option maxHeartbeats 4000000 in
theorem rStrong_any (c : Cnf) (v : Value) (l : List Blk) (vl : Value) (ls : List Lnk) (vs : Value) (a d : Chk) (w : World) (hC : CnfAt w v c) (hS : Sl 5 encBlk w vl l) (hl : l.length ≤ 900000) (hL : Sl 7 encLnk w vs ls) (hls : ls.length ≤ 900000) :
    Calls Try.prog 25 #[v, vl, vs, vChk a, vChk d] w fun e w' => e = .returned (.bool (strongB c l ls ⟨a, d⟩)) ∧ Below w.heap.size w w' := by
  have HC := hide hC
  have HS := hide hS
  have HL := hide hL
  obtain ⟨s, rfl, hs⟩ := hC
  clear hs hS hL
  go_enter Try.func25, Try.ntmps25
  go_wp2
  obtain ⟨W, hW⟩ : ∃ W, ((w.alloc (.cells #[s, .int .u64 c.seed.1, .int .i64 c.epoch.1, .int .i64 c.num.1, .int .i64 c.den.1] 25)).alloc (.cells #[.int .i64 a.ep.1, .int .u64 a.root.a.1, .int .u64 a.root.b.1] 42)).alloc (.cells #[.int .i64 d.ep.1, .int .u64 d.root.a.1, .int .u64 d.root.b.1] 42) = W := ⟨_, rfl⟩
  have hbW : Below w.heap.size w W := by rw [← hW]; exact ((below_alloc w _).alloc (by simp) _).alloc (by simp; omega) _
  have hB : Blok W w.heap.size 25 #[s, .int .u64 c.seed.1, .int .i64 c.epoch.1, .int .i64 c.num.1, .int .i64 c.den.1] := by rw [← hW]; exact ((Blok.new _ _ _).alloc _).alloc _
  have hB1 : Blok W (w.heap.size + 1) 42 #[.int .i64 a.ep.1, .int .u64 a.root.a.1, .int .u64 a.root.b.1] := by rw [← hW]; simpa using (Blok.new (w.alloc (.cells #[s, .int .u64 c.seed.1, .int .i64 c.epoch.1, .int .i64 c.num.1, .int .i64 c.den.1] 25)) 42 #[.int .i64 a.ep.1, .int .u64 a.root.a.1, .int .u64 a.root.b.1]).alloc (.cells #[.int .i64 d.ep.1, .int .u64 d.root.a.1, .int .u64 d.root.b.1] 42)
  have hB2 : Blok W (w.heap.size + 2) 42 #[.int .i64 d.ep.1, .int .u64 d.root.a.1, .int .u64 d.root.b.1] := by rw [← hW]; simpa using Blok.new ((w.alloc (.cells #[s, .int .u64 c.seed.1, .int .i64 c.epoch.1, .int .i64 c.num.1, .int .i64 c.den.1] 25)).alloc (.cells #[.int .i64 a.ep.1, .int .u64 a.root.a.1, .int .u64 a.root.b.1] 42)) 42 #[.int .i64 d.ep.1, .int .u64 d.root.a.1, .int .u64 d.root.b.1]
  rw [hW]
  clear hW
  have r0 := hB.ext 0 rfl
  have r1 := hB.ext 1 rfl
  have r2 := hB.ext 2 rfl
  have r3 := hB.ext 3 rfl
  have r4 := hB.ext 4 rfl
  have p0 := hB1.ext 0 rfl
  have q0 := hB2.ext 0 rfl
  have p1 := hB1.ext 1 rfl
  have q1 := hB2.ext 1 rfl
  have p2 := hB1.ext 2 rfl
  have q2 := hB2.ext 2 rfl
  have hsp : w.heap.size + 1 + 1 = w.heap.size + 2 := rfl
  refine wp_region_held_drew (S := fun w' => Below W.heap.size W w') (by kernel_rfl) (below_drew W) (fun hH => ?_)
  refine wpAnyH_take (i := 0) (oi := { dst := some 12, op := Go.Op.load 25 (Go.Operand.tmp 5), type := 25, pos := "ref.go:47", after := #[], guard := none }) (v := ?_) rfl (by kernel_rfl) (by kernel_rfl) (by kernel_rfl) (fun _ _ _ h => h) (Or.inl ⟨by rfl, ?hy⟩) hH ?_
  case hy => (intro w hSw; (try dsimp only at hSw); go_simp; try with_reducible rfl)
  try simp only [Act.put, List.setIfInBounds_toArray, List.set_cons_zero, List.set_cons_succ]
  refine wpAnyH_take (i := 1) (oi := { dst := some 13, op := Go.Op.load 25 (Go.Operand.tmp 5), type := 25, pos := "ref.go:47", after := #[], guard := none }) (v := ?_) rfl (by kernel_rfl) (by kernel_rfl) (by kernel_rfl) (fun _ _ _ h => h) (Or.inl ⟨by rfl, ?hy⟩) hH ?_
  case hy => (intro w hSw; (try dsimp only at hSw); go_simp; try with_reducible rfl)
  try simp only [Act.put, List.setIfInBounds_toArray, List.set_cons_zero, List.set_cons_succ]
  refine wpAnyH_take (i := 2) (oi := { dst := some 14, op := Go.Op.move (Go.Operand.tmp 1), type := 26, pos := "ref.go:47", after := #[], guard := none }) (v := ?_) rfl (by kernel_rfl) (by kernel_rfl) (by kernel_rfl) (fun _ _ _ h => h) (Or.inl ⟨by rfl, ?hy⟩) hH ?_
  case hy => (intro w hSw; (try dsimp only at hSw); go_simp; try with_reducible rfl)
  try simp only [Act.put, List.setIfInBounds_toArray, List.set_cons_zero, List.set_cons_succ]
  refine wpAnyH_take (i := 3) (oi := { dst := some 15, op := Go.Op.move (Go.Operand.tmp 2), type := 40, pos := "ref.go:47", after := #[], guard := none }) (v := ?_) rfl (by kernel_rfl) (by kernel_rfl) (by kernel_rfl) (fun _ _ _ h => h) (Or.inl ⟨by rfl, ?hy⟩) hH ?_
  case hy => (intro w hSw; (try dsimp only at hSw); go_simp; try with_reducible rfl)
  try simp only [Act.put, List.setIfInBounds_toArray, List.set_cons_zero, List.set_cons_succ]
  refine wpAnyH_take (i := 5) (oi := { dst := some 17, op := Go.Op.load 42 (Go.Operand.tmp 8), type := 42, pos := "ref.go:47", after := #[], guard := none }) (v := ?_) rfl (by kernel_rfl) (by kernel_rfl) (by kernel_rfl) (fun _ _ _ h => h) (Or.inl ⟨by rfl, ?hy⟩) hH ?_
  case hy => (intro w hSw; (try dsimp only at hSw); go_simp; try with_reducible rfl)
  try simp only [Act.put, List.setIfInBounds_toArray, List.set_cons_zero, List.set_cons_succ]
  refine wpAnyH_take (i := 6) (oi := { dst := some 18, op := Go.Op.load 42 (Go.Operand.tmp 9), type := 42, pos := "ref.go:47", after := #[], guard := none }) (v := ?_) rfl (by kernel_rfl) (by kernel_rfl) (by kernel_rfl) (fun _ _ _ h => h) (Or.inl ⟨by rfl, ?hy⟩) hH ?_
  case hy => (intro w hSw; (try dsimp only at hSw); go_simp; try with_reducible rfl)
  try simp only [Act.put, List.setIfInBounds_toArray, List.set_cons_zero, List.set_cons_succ]
  refine wpAnyH_ready (rs := [4]) (by kernel_rfl) (by simp) ?_
  refine (AllReadyH.cons (o := { dst := some 16, op := Go.Op.call { callee := Go.Callee.value (Go.Operand.func 67), args := #[Go.Operand.tmp 13, Go.Operand.tmp 14, Go.Operand.tmp 15], argTypes := #[25, 26, 40] }, type := 40, pos := "ref.go:47", after := #[{ on := 1, ground := Go.Ground.data }, { on := 2, ground := Go.Ground.data }, { on := 3, ground := Go.Ground.data }], guard := none }) rfl (fun K hK => ?_) AllReadyH.nil)
  go_simp
  go_at_call 67
  refine (rfine_any c _ l vl ls vs _ ((HC.out.after hbW).after hH) ((HS.out.after hbW).after hH) hl ((HL.out.after hbW).after hH) hls).mono ?_
  rintro e w5 ⟨vf, rfl, hvf, hw5⟩
  try go_simp
  refine hK.out _ _ (below_ext hH hw5) (fun hH2 => ?_)
  clear hK K hH
  have hH := hH2
  clear hH2
  try simp only [Act.put, List.setIfInBounds_toArray, List.set_cons_zero, List.set_cons_succ]
  refine wpAnyH_ready (rs := [7]) (by kernel_rfl) (by simp) ?_
  refine (AllReadyH.cons (o := { dst := some 19, op := Go.Op.call { callee := Go.Callee.value (Go.Operand.func 66), args := #[Go.Operand.tmp 12, Go.Operand.tmp 16, Go.Operand.tmp 17, Go.Operand.tmp 18], argTypes := #[25, 40, 42, 42] }, type := 4, pos := "ref.go:47", after := #[{ on := 0, ground := Go.Ground.data }, { on := 4, ground := Go.Ground.data }, { on := 5, ground := Go.Ground.data }, { on := 6, ground := Go.Ground.data }, { on := 4, ground := Go.Ground.chain }], guard := none }) rfl (fun K hK => ?_) AllReadyH.nil)
  go_simp
  go_at_call 66
  refine (rstrong_any c _ (fineL c l ls) vf a d _ ((HC.out.after hbW).after hH) hvf (Nat.le_trans (List.length_filter_le _ _) hls)).mono ?_
  rw [strongL_fine]
  rintro e w6 ⟨rfl, hw6⟩
  try go_simp
  refine hK.out _ _ (below_ext hH hw6) (fun hH2 => ?_)
  clear hK K hH
  have hH := hH2
  clear hH2
  try simp only [Act.put, List.setIfInBounds_toArray, List.set_cons_zero, List.set_cons_succ]
  refine wpAnyH_take (i := 8) (oi := { dst := some 11, op := Go.Op.assign (Go.Operand.tmp 19), type := 4, pos := "ref.go:47", after := #[{ on := 7, ground := Go.Ground.data }, { on := 7, ground := Go.Ground.chain }, { on := 0, ground := Go.Ground.phase }, { on := 1, ground := Go.Ground.phase }, { on := 2, ground := Go.Ground.phase }, { on := 3, ground := Go.Ground.phase }, { on := 4, ground := Go.Ground.phase }, { on := 5, ground := Go.Ground.phase }, { on := 6, ground := Go.Ground.phase }, { on := 7, ground := Go.Ground.phase }], guard := none }) (v := ?_) rfl (by kernel_rfl) (by kernel_rfl) (by kernel_rfl) (fun _ _ _ h => h) (Or.inl ⟨by rfl, ?hy⟩) hH ?_
  case hy => (intro w hSw; (try dsimp only at hSw); go_simp; try with_reducible rfl)
  try simp only [Act.put, List.setIfInBounds_toArray, List.set_cons_zero, List.set_cons_succ]
  refine wpAnyH_done (by kernel_rfl) ?_ _
  have hbz := below_then hbW hbW.size hH
  clear hH
  go_wp2
  go_ret
  exact ⟨by first | rfl | (rw [strongL_fine]; rfl), hbz⟩
end Go.Proofs.Ytbfjoakaofgapaa
