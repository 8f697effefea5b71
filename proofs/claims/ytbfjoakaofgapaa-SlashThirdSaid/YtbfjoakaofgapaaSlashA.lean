/- package slash: two votes that nobody may have both. -/
import Derived.Test.YtbfjoakaofgapaaSlashP
import Derived.Test.YtbfjoakaofgapaaAppSl
namespace Go.Proofs.Ytbfjoakaofgapaa
set_option linter.unusedSimpArgs false
set_option linter.unusedVariables false
set_option linter.unusedSectionVars false
open Go Go.RowKit
set_option maxRecDepth 100000

/-! ### equality of votes -/
theorem rowVote : (169 : TypeId) < Try.prog.types.size := of_decide_eq_true (by kernel_rfl)
theorem wideVote : AggT 169 := .inr ⟨_, Try.underlying169⟩
theorem ktVote : Try.prog.keyTypeAt 5 169 = true := by kernel_rfl
theorem lawVote : WideMaps.KeyLaw Try.prog 169 :=
  deep_law_laid laidOut (m := 5) (by omega) rowVote ktVote (by rw [Try.underlying169])
theorem cellsVote : Try.prog.cellsOf 169 = 7 := by kernel_rfl
theorem cellsLnkS : Try.prog.cellsOf 44 = 7 := by kernel_rfl
theorem litsLnk (d : Nat) (x : Lnk) : Try.prog.keyLits (d + 4) 44 (encLnk x) =
    some [.int .i64 x.frm.1, .int .i64 x.src.ep.1, .int .u64 x.src.root.a.1, .int .u64 x.src.root.b.1, .int .i64 x.tgt.ep.1, .int .u64 x.tgt.root.a.1, .int .u64 x.tgt.root.b.1] := by
  unfold Program.keyLits encLnk
  simp [Try.underlying44, cellsLnkS, cellsChk, cellsI, litsI (d + 2) x.frm.2, litsChk d x.src.ep.2 x.src.root.a.2 x.src.root.b.2, litsChk d x.tgt.ep.2 x.tgt.root.a.2 x.tgt.root.b.2]
theorem litsVote (d : Nat) (x : Lnk) : Try.prog.keyLits (d + 5) 169 (encLnk x) =
    some [.int .i64 x.frm.1, .int .i64 x.src.ep.1, .int .u64 x.src.root.a.1, .int .u64 x.src.root.b.1, .int .i64 x.tgt.ep.1, .int .u64 x.tgt.root.a.1, .int .u64 x.tgt.root.b.1] := by
  have h := litsLnk d x
  unfold Program.keyLits
  simp [Try.underlying169, cellsVote, cellsLnkS, encLnk] at h ⊢
  simp [h]
theorem keyVote (x : Lnk) : ∃ l, keyOf Try.prog 169 (vLnk x) = some l :=
  key_of wideVote (by kernel_rfl) (by simp [Value.formed, Try.underlying169, cellsVote]) (fun d => litsVote (d + 1) x)
theorem vLnk_inj {x y : Lnk} (h : vLnk x = vLnk y) : x = y := by
  simp only [vLnk, Value.agg.injEq, Array.mk.injEq, List.cons.injEq, Value.int.injEq, true_and, and_true] at h
  obtain ⟨h0, h1, h2, h3, h4, h5, h6⟩ := h
  have e1 : x.src = y.src := vChk_inj (by simp [vChk, h1, h2, h3])
  have e2 : x.tgt = y.tgt := vChk_inj (by simp [vChk, h4, h5, h6])
  have e0 : x.frm = y.frm := Subtype.ext h0
  cases x; cases y; simp_all
theorem run_equalIn_Vote (x y : Lnk) (w : World) : (Op.equalIn 10000 169 (vLnk x) (vLnk y)).run Try.prog w = .ok (decide (x = y)) w := by
  obtain ⟨lx, hx⟩ := keyVote x
  obtain ⟨ly, hy⟩ := keyVote y
  obtain ⟨r, hr, hiff⟩ := run_equal_deep w (m := 5) (by omega) ktVote (by rw [Try.underlying169]) hx hy
  have hr' : (Op.equalIn 10000 169 (vLnk x) (vLnk y)).run Try.prog w = .ok r w := hr
  rw [hr']
  have : r = decide (x = y) := by
    rw [Bool.eq_iff_iff, hiff, decide_eq_true_iff]
    exact ⟨fun e => vLnk_inj (lawVote.inj hx (e ▸ hy)), fun e => by rw [e] at hx; rw [hx] at hy; exact Option.some.inj hy⟩
  rw [this]
theorem guardVote : Try.prog.eqGuardType Try.prog.depth 169 = false := by kernel_rfl

/-! ### the three tests -/
theorem spans_any (a b : Lnk) (w : World) : Calls Try.prog 129 #[vLnk a, vLnk b] w fun e w' => e = .returned (.bool (spansB a b)) ∧ Below w.heap.size w w' := by
  go_enter Try.func129, Try.ntmps129
  go_wp2
  all_goals
    go_ret
    refine ⟨congrArg (fun b => Ending.returned (Value.bool b)) ?_, (below_alloc w _).alloc (by simp) _⟩
    rw [Bool.eq_iff_iff]
    simp [spansB]
    try omega
theorem spanned_any (a b : Lnk) (w : World) : Calls Try.prog 130 #[vLnk a, vLnk b] w fun e w' => e = .returned (.bool (spansB b a)) ∧ Below w.heap.size w w' := by
  go_enter Try.func130, Try.ntmps130
  go_wp2_with fail
  refine (spans_any b a _).mono ?_
  rintro e w1 ⟨rfl, hb⟩
  go_wp2
  go_ret
  exact ⟨rfl, below_then ((below_alloc w _).alloc (by simp) _) (by simp; omega) hb⟩
theorem twice_any (a b : Lnk) (w : World) : Calls Try.prog 131 #[vLnk a, vLnk b] w fun e w' => e = .returned (.bool (twiceB a b)) ∧ Below w.heap.size w w' := by
  have hg := guardVote
  by_cases hab : a = b
  · have hr : Hid (twiceB a b = false) := by unfold Hid twiceB; simp [hab]
    have hq : ∀ W', (Op.equalIn 10000 169 (.agg #[.int .i64 a.frm.1, .int .i64 a.src.ep.1, .int .u64 a.src.root.a.1, .int .u64 a.src.root.b.1, .int .i64 a.tgt.ep.1, .int .u64 a.tgt.root.a.1, .int .u64 a.tgt.root.b.1]) (.agg #[.int .i64 b.frm.1, .int .i64 b.src.ep.1, .int .u64 b.src.root.a.1, .int .u64 b.src.root.b.1, .int .i64 b.tgt.ep.1, .int .u64 b.tgt.root.a.1, .int .u64 b.tgt.root.b.1])).run Try.prog W' = .ok true W' := fun W' => by
      have := run_equalIn_Vote a b W'
      rw [decide_eq_true hab] at this
      exact this
    clear hab
    go_enter Try.func131, Try.ntmps131
    go_wp2
    go_ret
    exact ⟨by rw [hr.out]; rfl, (below_alloc w _).alloc (by simp) _⟩
  · have hr : Hid (twiceB a b = decide (a.tgt.ep.1 = b.tgt.ep.1)) := by unfold Hid twiceB; simp [hab]
    have hq : ∀ W', (Op.equalIn 10000 169 (.agg #[.int .i64 a.frm.1, .int .i64 a.src.ep.1, .int .u64 a.src.root.a.1, .int .u64 a.src.root.b.1, .int .i64 a.tgt.ep.1, .int .u64 a.tgt.root.a.1, .int .u64 a.tgt.root.b.1]) (.agg #[.int .i64 b.frm.1, .int .i64 b.src.ep.1, .int .u64 b.src.root.a.1, .int .u64 b.src.root.b.1, .int .i64 b.tgt.ep.1, .int .u64 b.tgt.root.a.1, .int .u64 b.tgt.root.b.1])).run Try.prog W' = .ok false W' := fun W' => by
      have := run_equalIn_Vote a b W'
      rw [decide_eq_false hab] at this
      exact this
    clear hab
    go_enter Try.func131, Try.ntmps131
    go_wp2
    all_goals
      go_ret
      refine ⟨congrArg (fun b => Ending.returned (Value.bool b)) ?_, (below_alloc w _).alloc (by simp) _⟩
      rw [hr.out, Bool.eq_iff_iff]
      simp
      try omega
theorem some_spans (a b : Lnk) (ga gb : Nat) (w : World) (hA : Blok w ga 169 #[.int .i64 a.frm.1, .int .i64 a.src.ep.1, .int .u64 a.src.root.a.1, .int .u64 a.src.root.b.1, .int .i64 a.tgt.ep.1, .int .u64 a.tgt.root.a.1, .int .u64 a.tgt.root.b.1]) (hB : Blok w gb 169 #[.int .i64 b.frm.1, .int .i64 b.src.ep.1, .int .u64 b.src.root.a.1, .int .u64 b.src.root.b.1, .int .i64 b.tgt.ep.1, .int .u64 b.tgt.root.a.1, .int .u64 b.tgt.root.b.1]) :
    Calls Try.prog 161 #[.func (.func 129) #[] #[], .pointer (some ⟨ga, 0, none⟩), .pointer (some ⟨gb, 0, none⟩)] w fun e w' => e = .returned (.bool (spansB a b)) ∧ Below w.heap.size w w' := by
  have ac0 := hA.cell 0
  have ac1 := hA.cell 1
  have ac2 := hA.cell 2
  have ac3 := hA.cell 3
  have ac4 := hA.cell 4
  have ac5 := hA.cell 5
  have ac6 := hA.cell 6
  have bc0 := hB.cell 0
  have bc1 := hB.cell 1
  have bc2 := hB.cell 2
  have bc3 := hB.cell 3
  have bc4 := hB.cell 4
  have bc5 := hB.cell 5
  have bc6 := hB.cell 6
  go_enter Try.func161, Try.ntmps161
  go_wp2_with fail
  refine (spans_any a b _).mono ?_
  rintro e w1 ⟨rfl, hb⟩
  go_wp2
  go_ret
  exact ⟨rfl, hb⟩
theorem some_spanned (a b : Lnk) (ga gb : Nat) (w : World) (hA : Blok w ga 169 #[.int .i64 a.frm.1, .int .i64 a.src.ep.1, .int .u64 a.src.root.a.1, .int .u64 a.src.root.b.1, .int .i64 a.tgt.ep.1, .int .u64 a.tgt.root.a.1, .int .u64 a.tgt.root.b.1]) (hB : Blok w gb 169 #[.int .i64 b.frm.1, .int .i64 b.src.ep.1, .int .u64 b.src.root.a.1, .int .u64 b.src.root.b.1, .int .i64 b.tgt.ep.1, .int .u64 b.tgt.root.a.1, .int .u64 b.tgt.root.b.1]) :
    Calls Try.prog 161 #[.func (.func 130) #[] #[], .pointer (some ⟨ga, 0, none⟩), .pointer (some ⟨gb, 0, none⟩)] w fun e w' => e = .returned (.bool (spansB b a)) ∧ Below w.heap.size w w' := by
  have ac0 := hA.cell 0
  have ac1 := hA.cell 1
  have ac2 := hA.cell 2
  have ac3 := hA.cell 3
  have ac4 := hA.cell 4
  have ac5 := hA.cell 5
  have ac6 := hA.cell 6
  have bc0 := hB.cell 0
  have bc1 := hB.cell 1
  have bc2 := hB.cell 2
  have bc3 := hB.cell 3
  have bc4 := hB.cell 4
  have bc5 := hB.cell 5
  have bc6 := hB.cell 6
  go_enter Try.func161, Try.ntmps161
  go_wp2_with fail
  refine (spanned_any a b _).mono ?_
  rintro e w1 ⟨rfl, hb⟩
  go_wp2
  go_ret
  exact ⟨rfl, hb⟩
theorem some_twice (a b : Lnk) (ga gb : Nat) (w : World) (hA : Blok w ga 169 #[.int .i64 a.frm.1, .int .i64 a.src.ep.1, .int .u64 a.src.root.a.1, .int .u64 a.src.root.b.1, .int .i64 a.tgt.ep.1, .int .u64 a.tgt.root.a.1, .int .u64 a.tgt.root.b.1]) (hB : Blok w gb 169 #[.int .i64 b.frm.1, .int .i64 b.src.ep.1, .int .u64 b.src.root.a.1, .int .u64 b.src.root.b.1, .int .i64 b.tgt.ep.1, .int .u64 b.tgt.root.a.1, .int .u64 b.tgt.root.b.1]) :
    Calls Try.prog 161 #[.func (.func 131) #[] #[], .pointer (some ⟨ga, 0, none⟩), .pointer (some ⟨gb, 0, none⟩)] w fun e w' => e = .returned (.bool (twiceB a b)) ∧ Below w.heap.size w w' := by
  have ac0 := hA.cell 0
  have ac1 := hA.cell 1
  have ac2 := hA.cell 2
  have ac3 := hA.cell 3
  have ac4 := hA.cell 4
  have ac5 := hA.cell 5
  have ac6 := hA.cell 6
  have bc0 := hB.cell 0
  have bc1 := hB.cell 1
  have bc2 := hB.cell 2
  have bc3 := hB.cell 3
  have bc4 := hB.cell 4
  have bc5 := hB.cell 5
  have bc6 := hB.cell 6
  go_enter Try.func161, Try.ntmps161
  go_wp2_with fail
  refine (twice_any a b _).mono ?_
  rintro e w1 ⟨rfl, hb⟩
  go_wp2
  go_ret
  exact ⟨rfl, hb⟩
def Three (a b : Lnk) (k : Nat) : Prop := (1 ≤ k → spansB a b = false) ∧ (2 ≤ k → spansB b a = false) ∧ (3 ≤ k → twiceB a b = false)
def threeB (a b : Lnk) : Bool := spansB a b || (spansB b a || twiceB a b)
set_option maxHeartbeats 1000000 in
theorem idx3_any (a b : Lnk) (ga gb gf : Nat) (w : World) (hA : Blok w ga 169 #[.int .i64 a.frm.1, .int .i64 a.src.ep.1, .int .u64 a.src.root.a.1, .int .u64 a.src.root.b.1, .int .i64 a.tgt.ep.1, .int .u64 a.tgt.root.a.1, .int .u64 a.tgt.root.b.1]) (hB : Blok w gb 169 #[.int .i64 b.frm.1, .int .i64 b.src.ep.1, .int .u64 b.src.root.a.1, .int .u64 b.src.root.b.1, .int .i64 b.tgt.ep.1, .int .u64 b.tgt.root.a.1, .int .u64 b.tgt.root.b.1]) (ft : TypeId) (hF : Blok w gf ft #[.func (.func 129) #[] #[], .func (.func 130) #[] #[], .func (.func 131) #[] #[]]) :
    Calls Try.prog 184 #[.slice (some ⟨gf, 0, none⟩) 3 3, .func (.func 161) #[] #[.pointer (some ⟨ga, 0, none⟩), .pointer (some ⟨gb, 0, none⟩)]] w fun e w' => ∃ r : Int, e = .returned (.int .i64 r) ∧ (0 ≤ r ↔ threeB a b = true) ∧ Below w.heap.size w w' := by
  have HA := hide hA
  have HB := hide hB
  have HF := hide hF
  clear hA hB hF
  go_enter Try.func184, Try.ntmps184
  go_wp2
  go_loopw [8] (fun i wr => ∃ k : Nat, k ≤ 3 ∧ i = .int .i64 k ∧ Below w.heap.size w wr ∧ Three a b k) (fun i _ => 3 - (intOf i).toNat)
  case atStart => exact ⟨0, by omega, rfl, Below.refl _ _, by omega, by omega, by omega⟩
  case round =>
    obtain ⟨k, hk, rfl, hb, ⟨h1, h2, h3⟩⟩ := hrel
    have H1 := hide h1
    have H2 := hide h2
    have H3 := hide h3
    clear h1 h2 h3
    have hF := HF.out.below hb HF.out.lt
    have f0 := hF.cell 0
    have f1 := hF.cell 1
    have f2 := hF.cell 2
    have hcase : k = 0 ∨ k = 1 ∨ k = 2 ∨ k = 3 := by omega
    rcases hcase with rfl | rfl | rfl | rfl
    · cases hr : spansB a b with
      | true =>
        have HT : Hid (threeB a b = true) := by unfold Hid threeB; rw [hr]; simp
        have HR := hide hr
        clear hr
        go_wp2_with fail
        refine (some_spans a b ga gb _ (HA.out.below hb HA.out.lt) (HB.out.below hb HB.out.lt)).mono ?_
        rw [HR.out]
        rintro e w1 ⟨rfl, hb1⟩
        clear f0 f1 f2 hF
        go_wp2
        go_ret
        exact ⟨0, rfl, ⟨fun _ => HT.out, fun _ => by omega⟩, below_then hb hb.size hb1⟩
      | false =>
        have HR := hide hr
        clear hr
        go_wp2_with fail
        refine (some_spans a b ga gb _ (HA.out.below hb HA.out.lt) (HB.out.below hb HB.out.lt)).mono ?_
        rw [HR.out]
        rintro e w1 ⟨rfl, hb1⟩
        clear f0 f1 f2 hF
        go_wp2
        go_roundw
        case rel => exact ⟨1, by omega, by go_num, below_then hb hb.size hb1, ⟨fun _ => HR.out, by omega, by omega⟩⟩
        case measure => simp [intOf]
    · cases hr : spansB b a with
      | true =>
        have HT : Hid (threeB a b = true) := by unfold Hid threeB; rw [hr]; simp
        have HR := hide hr
        clear hr
        go_wp2_with fail
        refine (some_spanned a b ga gb _ (HA.out.below hb HA.out.lt) (HB.out.below hb HB.out.lt)).mono ?_
        rw [HR.out]
        rintro e w1 ⟨rfl, hb1⟩
        clear f0 f1 f2 hF
        go_wp2
        go_ret
        exact ⟨1, rfl, ⟨fun _ => HT.out, fun _ => by omega⟩, below_then hb hb.size hb1⟩
      | false =>
        have HR := hide hr
        clear hr
        go_wp2_with fail
        refine (some_spanned a b ga gb _ (HA.out.below hb HA.out.lt) (HB.out.below hb HB.out.lt)).mono ?_
        rw [HR.out]
        rintro e w1 ⟨rfl, hb1⟩
        clear f0 f1 f2 hF
        go_wp2
        go_roundw
        case rel => exact ⟨2, by omega, by go_num, below_then hb hb.size hb1, ⟨fun _ => H1.out (by omega), fun _ => HR.out, by omega⟩⟩
        case measure => simp [intOf]
    · cases hr : twiceB a b with
      | true =>
        have HT : Hid (threeB a b = true) := by unfold Hid threeB; rw [hr]; simp
        have HR := hide hr
        clear hr
        go_wp2_with fail
        refine (some_twice a b ga gb _ (HA.out.below hb HA.out.lt) (HB.out.below hb HB.out.lt)).mono ?_
        rw [HR.out]
        rintro e w1 ⟨rfl, hb1⟩
        clear f0 f1 f2 hF
        go_wp2
        go_ret
        exact ⟨2, rfl, ⟨fun _ => HT.out, fun _ => by omega⟩, below_then hb hb.size hb1⟩
      | false =>
        have HR := hide hr
        clear hr
        go_wp2_with fail
        refine (some_twice a b ga gb _ (HA.out.below hb HA.out.lt) (HB.out.below hb HB.out.lt)).mono ?_
        rw [HR.out]
        rintro e w1 ⟨rfl, hb1⟩
        clear f0 f1 f2 hF
        go_wp2
        go_roundw
        case rel => exact ⟨3, by omega, by go_num, below_then hb hb.size hb1, ⟨fun _ => H1.out (by omega), fun _ => H2.out (by omega), fun _ => HR.out⟩⟩
        case measure => simp [intOf]
    · have HT : Hid (threeB a b = false) := by unfold Hid threeB; rw [H1.out (by omega), H2.out (by omega), H3.out (by omega)]; rfl
      clear f0 f1 f2 hF
      go_wp2
      go_ret
      exact ⟨-1, rfl, ⟨fun h => by omega, fun h => by rw [HT.out] at h; cases h⟩, hb⟩
theorem ctn3_any (a b : Lnk) (ga gb gf : Nat) (w : World) (hA : Blok w ga 169 #[.int .i64 a.frm.1, .int .i64 a.src.ep.1, .int .u64 a.src.root.a.1, .int .u64 a.src.root.b.1, .int .i64 a.tgt.ep.1, .int .u64 a.tgt.root.a.1, .int .u64 a.tgt.root.b.1]) (hB : Blok w gb 169 #[.int .i64 b.frm.1, .int .i64 b.src.ep.1, .int .u64 b.src.root.a.1, .int .u64 b.src.root.b.1, .int .i64 b.tgt.ep.1, .int .u64 b.tgt.root.a.1, .int .u64 b.tgt.root.b.1]) (ft : TypeId) (hF : Blok w gf ft #[.func (.func 129) #[] #[], .func (.func 130) #[] #[], .func (.func 131) #[] #[]]) :
    Calls Try.prog 160 #[.slice (some ⟨gf, 0, none⟩) 3 3, .func (.func 161) #[] #[.pointer (some ⟨ga, 0, none⟩), .pointer (some ⟨gb, 0, none⟩)]] w fun e w' => e = .returned (.bool (threeB a b)) ∧ Below w.heap.size w w' := by
  go_enter Try.func160, Try.ntmps160
  go_wp2_with fail
  refine (idx3_any a b ga gb gf _ hA hB ft hF).mono ?_
  rintro e w1 ⟨r, rfl, hr, hb⟩
  cases h : threeB a b with
  | true =>
    have hge : 0 ≤ r := hr.2 h
    have hd : decide (r ≥ 0) = true := by simp; omega
    have H := hide h
    clear h hr
    go_wp2
    go_ret
    exact ⟨by first | rfl | (rw [H.out]; rfl), hb⟩
  | false =>
    have hlt : r < 0 := by
      refine Int.not_le.1 fun hge => ?_
      rw [hr.1 hge] at h
      cases h
    have hd : decide (r ≥ 0) = false := by simp; omega
    have H := hide h
    clear h hr
    go_wp2
    go_ret
    exact ⟨by first | rfl | (rw [H.out]; rfl), hb⟩
theorem someOf_any (a b : Lnk) (gf : Nat) (w : World) (ft : TypeId) (hF : Blok w gf ft #[.func (.func 129) #[] #[], .func (.func 130) #[] #[], .func (.func 131) #[] #[]]) :
    Calls Try.prog 128 #[vLnk a, vLnk b, .slice (some ⟨gf, 0, none⟩) 3 3] w fun e w' => e = .returned (.bool (threeB a b)) ∧ Below w.heap.size w w' := by
  go_enter Try.func128, Try.ntmps128
  go_wp2_with fail
  refine (ctn3_any a b w.heap.size (w.heap.size + 1) gf _ ((Blok.new _ _ _).alloc _) (by simpa using Blok.new (w.alloc (.cells #[.int .i64 a.frm.1, .int .i64 a.src.ep.1, .int .u64 a.src.root.a.1, .int .u64 a.src.root.b.1, .int .i64 a.tgt.ep.1, .int .u64 a.tgt.root.a.1, .int .u64 a.tgt.root.b.1] 169)) 169 #[.int .i64 b.frm.1, .int .i64 b.src.ep.1, .int .u64 b.src.root.a.1, .int .u64 b.src.root.b.1, .int .i64 b.tgt.ep.1, .int .u64 b.tgt.root.a.1, .int .u64 b.tgt.root.b.1]) ft ((hF.alloc _).alloc _)).mono ?_
  rintro e w1 ⟨rfl, hb⟩
  go_wp2
  go_ret
  exact ⟨rfl, below_then ((below_alloc w _).alloc (by simp) _) (by simp; omega) hb⟩
theorem pair_any (a b : Lnk) (w : World) :
    Calls Try.prog 89 #[vLnk a, vLnk b] w fun e w' => e = .returned (.bool (pairB a b)) ∧ Below w.heap.size w w' := by
  by_cases hf : a.frm.1 = b.frm.1
  · have HP : Hid (pairB a b = threeB a b) := by unfold Hid pairB threeB; rw [decide_eq_true hf, Bool.true_and]
    have hd : (a.frm.1 == b.frm.1) = true := by simpa using hf
    clear hf
    go_enter Try.func89, Try.ntmps89
    go_wp2_with fail
    refine (someOf_any a b (w.heap.size + 2) _ _ (by simpa using Blok.new ((w.alloc (.cells #[.int .i64 a.frm.1, .int .i64 a.src.ep.1, .int .u64 a.src.root.a.1, .int .u64 a.src.root.b.1, .int .i64 a.tgt.ep.1, .int .u64 a.tgt.root.a.1, .int .u64 a.tgt.root.b.1] 44)).alloc (.cells #[.int .i64 b.frm.1, .int .i64 b.src.ep.1, .int .u64 b.src.root.a.1, .int .u64 b.src.root.b.1, .int .i64 b.tgt.ep.1, .int .u64 b.tgt.root.a.1, .int .u64 b.tgt.root.b.1] 44)) _ #[.func (.func 129) #[] #[], .func (.func 130) #[] #[], .func (.func 131) #[] #[]])).mono ?_
    rintro e w1 ⟨rfl, hb⟩
    generalize threeB a b = r at *
    go_wp2
    go_ret
    exact ⟨by rw [HP.out]; rfl, below_then (((below_alloc w _).alloc (by simp) _).alloc (by simp; omega) _) (by simp; omega) hb⟩
  · have HP : Hid (pairB a b = false) := by unfold Hid pairB; rw [decide_eq_false hf]; rfl
    have hd : (a.frm.1 == b.frm.1) = false := by simpa using hf
    clear hf
    go_enter Try.func89, Try.ntmps89
    go_wp2
    go_ret
    exact ⟨by rw [HP.out]; rfl, (below_alloc w _).alloc (by simp) _⟩
end Go.Proofs.Ytbfjoakaofgapaa
