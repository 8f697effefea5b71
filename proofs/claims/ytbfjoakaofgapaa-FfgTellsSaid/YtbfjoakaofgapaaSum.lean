/- duty.those, duty.sum. -/
import Derived.Test.YtbfjoakaofgapaaIter
namespace Go.Proofs.Ytbfjoakaofgapaa
set_option linter.unusedSimpArgs false
set_option linter.unusedVariables false
set_option linter.unusedSectionVars false
open Go Go.RowKit Go.Shelf
attribute [local go_sem] Oper.semAt_some
set_option maxRecDepth 100000

theorem those_any (c : Cnf) (s : Value) (fn : Fn) (fst cp : Array Value) (w : World) :
    Calls Try.prog 76 #[.agg #[s, .int .u64 c.seed.1, .int .i64 c.epoch.1, .int .i64 c.num.1, .int .i64 c.den.1], .func fn fst cp] w fun e w' => e = .returned (.func (.func 117) #[] #[.pointer (some ⟨w.heap.size, 0, none⟩), .pointer (some ⟨w.heap.size + 1, 0, none⟩)]) ∧
      Blok w' w.heap.size 25 #[s, .int .u64 c.seed.1, .int .i64 c.epoch.1, .int .i64 c.num.1, .int .i64 c.den.1] ∧ Blok w' (w.heap.size + 1) 115 #[.func fn fst cp] ∧ Below w.heap.size w w' := by
  go_enter Try.func76, Try.ntmps76
  go_wp2
  go_ret
  exact ⟨rfl, (Blok.new _ _ _).alloc _, by simpa using Blok.new (w.alloc (.cells #[s, .int .u64 c.seed.1, .int .i64 c.epoch.1, .int .i64 c.num.1, .int .i64 c.den.1] 25)) 115 #[.func fn fst cp], (below_alloc w _).alloc (by simp) _⟩

def sumC (c : Cnf) (p : Fin c.W.length → Bool) : Int := if mayC c then (((List.finRange c.W.length).filter p).map fun i => (c.W[i.val]).1).sum else 0
def sumL (c : Cnf) (l : List (Fin c.W.length)) : Int := (l.map fun i => (c.W[i.val]).1).sum
theorem sumL_snoc (c : Cnf) (l : List (Fin c.W.length)) (x : Fin c.W.length) : sumL c (l ++ [x]) = sumL c l + (c.W[x.val]).1 := by
  simp [sumL]
theorem sumL_bd {c : Cnf} (h : mayC c = true) : ∀ l : List (Fin c.W.length), 0 ≤ sumL c l ∧ sumL c l ≤ 1099511627776 * (l.length : Int)
  | [] => by simp [sumL]
  | x :: l => by
    have ih := sumL_bd h l
    have hx : 0 ≤ (c.W[x.val]).1 ∧ (c.W[x.val]).1 ≤ 1099511627776 := by
      unfold mayC at h
      exact (of_decide_eq_true h).2.2.1 _ (List.getElem_mem _)
    have e : sumL c (x :: l) = (c.W[x.val]).1 + sumL c l := by simp [sumL]
    rw [e, List.length_cons]
    push_cast
    omega
theorem blok_own {β : Type} (g : Nat) (t : TypeId) (f : β → Array Value) : Go.Own (fun (pre : β) W => Blok W g t (f pre)) := fun s A B row hs hg hr => hs.grown hg (fun e => by
  obtain ⟨o, ho, hc⟩ := hr _ e.symm
  unfold Blok at hs
  rw [hs] at ho
  cases ho
  cases hc)
set_option maxHeartbeats 2000000 in
theorem sum_any (c : Cnf) (v : Value) (p : Fin c.W.length → Bool) (cb ib : Nat) (w : World) (hS : CnfAt w v c)
    (hseq : ∀ W, Below w.heap.size w W → SeqStopsK Fence.wide 4 Try.prog 117 #[.pointer (some ⟨cb, 0, none⟩), .pointer (some ⟨ib, 0, none⟩)] (fun x : Fin c.W.length => #[.int .i64 (x.val : Int)]) (Below w.heap.size)
      (fun ys => ys = (List.finRange c.W.length).filter p) (fun _ => True) c.W.length W) :
    Calls Try.prog 75 #[v, .func (.func 117) #[] #[.pointer (some ⟨cb, 0, none⟩), .pointer (some ⟨ib, 0, none⟩)]] w fun e w' =>
      e = .returned (.int .i64 (sumC c p)) ∧ Below w.heap.size w w' := by
  have HS := hide hS
  obtain ⟨s, rfl, hs⟩ := hS
  refine (callsIn_wide (n := 5)).1 ?_
  refine callsIn_of_wp_marks Try.func75 rfl trivial ?_ rfl
  simp only [Try.ntmps75, List.size_toArray, List.length_cons, List.length_nil, Nat.reduceAdd, Nat.reduceSub, Array.replicate_succ, Array.replicate_zero, List.push_toArray, List.append_toArray, List.nil_append, List.cons_append]
  gi_wp2_with fail
  obtain ⟨w1, hw1⟩ : ∃ w1, (w.alloc (.cells #[s, .int .u64 c.seed.1, .int .i64 c.epoch.1, .int .i64 c.num.1, .int .i64 c.den.1] 25)).alloc (.cells #[.int .i64 0] 3) = w1 := ⟨_, rfl⟩
  have hb1 : Below w.heap.size w w1 := by rw [← hw1]; exact (below_alloc w _).alloc (by simp) _
  have hC : Blok w1 w.heap.size 25 #[s, .int .u64 c.seed.1, .int .i64 c.epoch.1, .int .i64 c.num.1, .int .i64 c.den.1] := by rw [← hw1]; exact (Blok.new _ _ _).alloc _
  have hN : Blok w1 (w.heap.size + 1) 3 #[.int .i64 0] := by rw [← hw1]; simpa using Blok.new (w.alloc (.cells #[s, .int .u64 c.seed.1, .int .i64 c.epoch.1, .int .i64 c.num.1, .int .i64 c.den.1] 25)) 3 #[.int .i64 0]
  rw [hw1]
  clear hw1
  refine ⟨trivial, ?_⟩
  refine (callsIn_wide.2 (dutyMay_any c _ _ (HS.out.after hb1))).mono ?_
  rintro e w2 ⟨rfl, hb2⟩
  have hb := below_then hb1 hb1.size hb2
  replace hC := hC.after hb2
  replace hN := hN.after hb2
  clear hb1 hb2
  have n0 := hN.cell 0
  cases hm : mayC c with
  | false =>
    have HM := hide hm
    clear hm
    gi_wp2
    exact ⟨_, results_tmp rfl _ _ _, by simp [sumC, HM.out], hb⟩
  | true =>
    have HM := hide hm
    clear hm
    have HQ := hide (hseq w2 hb)
    clear hseq
    gi_wp2
    refine wpIn_rangeFunc_ownF rfl (by omega) (gf := 117) (lb := #[.pointer (some ⟨cb, 0, none⟩), .pointer (some ⟨ib, 0, none⟩)]) rfl trivial (enters_of Try.func117 (by kernel_rfl) rfl)
      HQ.out belowK_t (belowK_b hb.size) (Below.refl _ _) (fun _ => rfl)
      (fun pre W => (Blok W w.heap.size 25 #[s, .int .u64 c.seed.1, .int .i64 c.epoch.1, .int .i64 c.num.1, .int .i64 c.den.1] ∧ Blok W (w.heap.size + 1) 3 #[.int .i64 (sumL c pre)]) ∧ Below w.heap.size w W)
      (fun _ _ _ => False)
      (OwnFrom.and (OwnFrom.and ((blok_own _ _ (fun _ => #[s, .int .u64 c.seed.1, .int .i64 c.epoch.1, .int .i64 c.num.1, .int .i64 c.den.1])).from _) ((blok_own _ _ (fun pre => #[.int .i64 (sumL c pre)])).from _)) (ownFrom_below (Nat.le_refl _) hb.size))
      (fun _ _ _ _ _ hs _ _ => hs)
      ⟨⟨hC, hN⟩, hb⟩
      (fun x => { tmps := #[.agg #[s, .int .u64 c.seed.1, .int .i64 c.epoch.1, .int .i64 c.num.1, .int .i64 c.den.1], .func (.func 117) #[] #[.pointer (some ⟨cb, 0, none⟩), .pointer (some ⟨ib, 0, none⟩)], .pointer (some ⟨w.heap.size, 0, none⟩), undef, .int .i64 0, .pointer (some ⟨w.heap.size + 1, 0, none⟩), .int .i64 (x.val : Int), .agg #[s, .int .u64 c.seed.1, .int .i64 c.epoch.1, .int .i64 c.num.1, .int .i64 c.den.1], .bool true, .bool false, undef, .func (.func 117) #[] #[.pointer (some ⟨cb, 0, none⟩), .pointer (some ⟨ib, 0, none⟩)], .int .i64 (x.val : Int), undef, undef, undef, undef, undef, undef, undef, undef], defers := [] }) ?assign ?body ?done ?stop
    case assign =>
      intro l x W K hK
      gi_wp2
      exact hK
    case body =>
      rintro l pre x W ⟨⟨hC', hN'⟩, hB⟩ hlen
      obtain ⟨A, cap, rfl, hcap, hmax, hA⟩ := hs
      obtain ⟨b, off, rfl, hbl, hc⟩ := hA (fun h => absurd x.isLt (by have h2 := congrArg List.length h; simp only [List.length_nil] at h2; omega))
      have hx : c.W[x.val]? = some c.W[x.val] := List.getElem?_eq_getElem x.isLt
      have e0 : W.cell? ⟨b, off + x.val, none⟩ = some (.int .i64 (c.W[x.val]).1) := by
        have := (hB.cell (p := ⟨b, off + x.val * 1 + 0, none⟩) hbl).trans (hc _ _ hx 0 _ rfl)
        simpa using this
      have c0 := hC'.cell 0
      have n1 := hN'.cell 0
      have n2 := hN'.frozen 0
      have hlt := x.isLt
      obtain ⟨hb0, hb1⟩ := sumL_bd HM.out pre
      obtain ⟨hb2, hb3⟩ := sumL_bd HM.out (pre ++ [x])
      have h12 : c.W.length ≤ 12 := by have := HM.out; unfold mayC at this; exact (of_decide_eq_true this).2.1
      rw [sumL_snoc] at hb2 hb3
      rw [List.length_append, List.length_singleton] at hb3
      push_cast at hb3
      have HC := hide hC'
      have HN := hide hN'
      clear hx hc hA hmax HQ HS hC hN n0 hC' hN'
      gi_wp2
      have hmx : Try.prog.follows .mixedOrders = true := by kernel_rfl
      gi_region_with_o (fail)
      all_goals gi_wp2
      all_goals
        rw [IntWalk.i64_in (sumL c pre + (c.W[x.val]).1) (by omega)]
        exact ⟨(KeepsOthers.setCell _ _ _).trans (KeepsOthers.drew _), ((Below.refl w.heap.size W).setCell (p := ⟨w.heap.size + 1, 0, none⟩) (by simp) _).drew, ⟨HC.out.far (by simp) _, by rw [sumL_snoc]; exact HN.out.set_ 0 _⟩, (hB.setCell (p := ⟨w.heap.size + 1, 0, none⟩) (by simp) _).drew⟩
    case done =>
      rintro D ys W hD rfl ⟨⟨hC', hN'⟩, hB⟩ hK
      have n1 := hN'.cell 0
      gi_wp2
      refine ⟨by simp, .inl ⟨_, _, rfl, run_takeDeferred hK, ?_⟩⟩
      refine ⟨_, results_tmp rfl _ _ _, by simp [sumC, HM.out, sumL], hB.trans (belowK_b (w := w) (Nat.le_refl _) W D _ _ ?_ hK rfl rfl)⟩
      have := hb.size
      omega
    case stop =>
      rintro D cc pre W _ _ h _
      exact h.elim
end Go.Proofs.Ytbfjoakaofgapaa
