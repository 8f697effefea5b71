/- The reference of layer 5: how much they weigh. -/
import Derived.Test.YtbfjoakaofgapaaRef5
import Derived.Test.YtbfjoakaofgapaaStrong
namespace Go.Proofs.Ytbfjoakaofgapaa
set_option linter.unusedSimpArgs false
set_option linter.unusedVariables false
set_option linter.unusedSectionVars false
open Go Go.RowKit
set_option maxRecDepth 100000

/-- What those weigh that come ahead of k and are wanted. -/
def sumTo (c : Cnf) (p : Fin c.W.length → Bool) (k : Nat) : Int := sumL c (((List.finRange c.W.length).take k).filter p)
theorem finRange_at {n k : Nat} (h : k < n) : (List.finRange n)[k]? = some ⟨k, h⟩ := by simp [h]
theorem sumTo_succ (c : Cnf) (p : Fin c.W.length → Bool) {k : Nat} (h : k < c.W.length) : sumTo c p (k + 1) = if p ⟨k, h⟩ then sumTo c p k + (c.W[k]).1 else sumTo c p k := by
  unfold sumTo
  rw [take_snoc (finRange_at h), List.filter_append]
  by_cases hp : p ⟨k, h⟩ = true
  · rw [if_pos hp, List.filter_cons_of_pos hp, List.filter_nil, sumL_snoc]
  · rw [if_neg hp, List.filter_cons_of_neg hp, List.filter_nil, List.append_nil]
theorem sumTo_all (c : Cnf) (p : Fin c.W.length → Bool) (h : mayC c = true) : sumTo c p c.W.length = sumC c p := by
  unfold sumTo sumC sumL
  rw [if_pos h, List.take_of_length_le (by simp)]
theorem sumTo_bd {c : Cnf} (h : mayC c = true) (p : Fin c.W.length → Bool) (k : Nat) : 0 ≤ sumTo c p k ∧ sumTo c p k ≤ 13194139533312 := by
  have hb := sumL_bd h (((List.finRange c.W.length).take k).filter p)
  have hw : c.W.length ≤ 12 := by
    simp only [mayC, decide_eq_true_eq] at h
    exact h.2.1
  have hl : (((List.finRange c.W.length).take k).filter p).length ≤ 12 := by
    have h1 := List.length_filter_le p ((List.finRange c.W.length).take k)
    rw [List.length_take, List.length_finRange] at h1
    omega
  unfold sumTo
  omega
theorem sumC_bad {c : Cnf} (p : Fin c.W.length → Bool) (h : mayC c = false) : sumC c p = 0 := by simp [sumC, h]

set_option maxHeartbeats 2000000 in
theorem rtotal_any (c : Cnf) (v : Value) (w : World) (hS : CnfAt w v c) :
    Calls Try.prog 111 #[v] w fun e w' => e = .returned (.int .i64 (totalC c)) ∧ Below w.heap.size w w' := by
  have HC := hide hS
  obtain ⟨s, rfl, hs⟩ := hS
  have hlen := hs.len_le
  obtain ⟨A, cap, rfl, hcap, hmax, hA⟩ := hs
  clear hmax
  go_enter Try.func111, Try.ntmps111
  go_wp2_with fail
  refine (rmay_any c _ _ (HC.out.after (below_alloc w _))).mono ?_
  obtain ⟨W, hW⟩ : ∃ W, w.alloc (.cells #[.slice A c.W.length cap, .int .u64 c.seed.1, .int .i64 c.epoch.1, .int .i64 c.num.1, .int .i64 c.den.1] 25) = W := ⟨_, rfl⟩
  have hbW : Below w.heap.size w W := by rw [← hW]; exact below_alloc w _
  have hB : Blok W w.heap.size 25 #[.slice A c.W.length cap, .int .u64 c.seed.1, .int .i64 c.epoch.1, .int .i64 c.num.1, .int .i64 c.den.1] := by rw [← hW]; exact Blok.new _ _ _
  rw [hW]
  clear hW
  rintro e w1 ⟨rfl, hb1⟩
  have hb := below_then hbW hbW.size hb1
  replace hB := hB.after hb1
  clear hb1 hbW HC
  have c0 := hB.cell 0
  cases hm : mayC c with
  | false =>
    have HE : Hid (totalC c = 0) := sumC_bad _ hm
    clear hm
    go_wp2
    go_loop [3, 5] (fun s i => s = .int .i64 0 ∧ i = .int .i64 0) (fun _ _ => 0)
    case atStart => exact ⟨rfl, rfl⟩
    case round =>
      obtain ⟨rfl, rfl⟩ := hrel
      by_cases hl0 : 0 < c.W.length
      · go_wp2
        go_ret
        exact ⟨by first | (rw [HE.out]; done) | (rw [HE.out]; rfl), hb⟩
      · go_wp2
        go_ret
        exact ⟨by first | (rw [HE.out]; done) | (rw [HE.out]; rfl), hb⟩
  | true =>
    have HM := hide hm
    clear hm
    go_wp2
    go_loop [3, 5] (fun s i => ∃ k : Nat, k ≤ c.W.length ∧ i = .int .i64 k ∧ s = .int .i64 (sumTo c (fun _ => true) k)) (fun _ i => c.W.length - (intOf i).toNat)
    case atStart => exact ⟨0, Nat.zero_le _, rfl, by simp [sumTo, sumL]⟩
    case round =>
      obtain ⟨k, hk, rfl, rfl⟩ := hrel
      by_cases hlt : k < c.W.length
      · have hy : c.W[k]? = some c.W[k] := List.getElem?_eq_getElem hlt
        obtain ⟨b, off, rfl, hbl, hc⟩ := hA (by intro h; rw [h] at hlt; simp at hlt)
        have e0 : w1.cell? ⟨b, off + k, none⟩ = some (.int .i64 (c.W[k]).1) := by
          have := (hb.cell (p := ⟨b, off + k * 1 + 0, none⟩) hbl).trans (hc k _ hy 0 _ rfl)
          simpa using this
        have hT := sumTo_succ c (fun _ => true) hlt
        rw [if_pos rfl] at hT
        have b1 := sumTo_bd HM.out (fun _ => true) (k + 1)
        rw [hT] at b1
        have HT := hide hT
        clear hT hy hc hA
        obtain ⟨y, hy⟩ : ∃ y, (c.W[k]).1 = y := ⟨_, rfl⟩
        rw [hy] at e0 b1
        have HT2 : Hid (sumTo c (fun _ => true) (k + 1) = sumTo c (fun _ => true) k + y) := by unfold Hid; rw [HT.out, hy]
        clear HT hy
        obtain ⟨a, ha⟩ : ∃ a, sumTo c (fun _ => true) k = a := ⟨_, rfl⟩
        have HT3 : Hid (sumTo c (fun _ => true) (k + 1) = a + y) := by unfold Hid; rw [HT2.out, ha]
        rw [ha] at b1 ⊢
        clear HT2 ha
        go_wp2
        go_round
        case rel => exact ⟨k + 1, by omega, by go_num, by rw [HT3.out]; try go_num⟩
        case measure => simp [intOf]; omega
      · have hkl : k = c.W.length := by omega
        subst hkl
        have HE : Hid (totalC c = sumTo c (fun _ => true) c.W.length) := (sumTo_all c (fun _ => true) HM.out).symm
        clear hlt hk hA
        go_wp2
        go_ret
        exact ⟨by first | (rw [HE.out]; done) | (rw [HE.out]; rfl), hb⟩

set_option maxHeartbeats 2000000 in
theorem rweight_any (c : Cnf) (v : Value) (l : List I64) (vl : Value) (w : World) (hS : CnfAt w v c) (hL : Sl 1 encI w vl l) :
    Calls Try.prog 110 #[v, vl] w fun e w' => e = .returned (.int .i64 (weightC c l)) ∧ Below w.heap.size w w' := by
  have HC := hide hS
  obtain ⟨s, rfl, hs⟩ := hS
  have hlen := hs.len_le
  obtain ⟨A, cap, rfl, hcap, hmax, hA⟩ := hs
  clear hmax
  go_enter Try.func110, Try.ntmps110
  go_wp2_with fail
  refine (rmay_any c _ _ (HC.out.after (below_alloc w _))).mono ?_
  obtain ⟨W, hW⟩ : ∃ W, w.alloc (.cells #[.slice A c.W.length cap, .int .u64 c.seed.1, .int .i64 c.epoch.1, .int .i64 c.num.1, .int .i64 c.den.1] 25) = W := ⟨_, rfl⟩
  have hbW : Below w.heap.size w W := by rw [← hW]; exact below_alloc w _
  have hB : Blok W w.heap.size 25 #[.slice A c.W.length cap, .int .u64 c.seed.1, .int .i64 c.epoch.1, .int .i64 c.num.1, .int .i64 c.den.1] := by rw [← hW]; exact Blok.new _ _ _
  rw [hW]
  clear hW
  rintro e w1 ⟨rfl, hb1⟩
  have hb := below_then hbW hbW.size hb1
  replace hB := hB.after hb1
  have hL1 := hide (hL.after hb)
  clear hb1 hbW HC hL
  have c0 := hB.cell 0
  cases hm : mayC c with
  | false =>
    have HE : Hid (weightC c l = 0) := sumC_bad _ hm
    clear hm
    go_wp2
    go_loop [5, 7] (fun s i => s = .int .i64 0 ∧ i = .int .i64 0) (fun _ _ => 0)
    case atStart => exact ⟨rfl, rfl⟩
    case round =>
      obtain ⟨rfl, rfl⟩ := hrel
      by_cases hl0 : 0 < c.W.length
      · go_wp2
        go_ret
        exact ⟨by first | (rw [HE.out]; done) | (rw [HE.out]; rfl), hb⟩
      · go_wp2
        go_ret
        exact ⟨by first | (rw [HE.out]; done) | (rw [HE.out]; rfl), hb⟩
  | true =>
    have HM := hide hm
    clear hm
    go_wp2
    go_loop [5, 7] (fun s i => ∃ k : Nat, k ≤ c.W.length ∧ i = .int .i64 k ∧ s = .int .i64 (sumTo c (fun i => memI l (i.val : Int)) k)) (fun _ i => c.W.length - (intOf i).toNat)
    case atStart => exact ⟨0, Nat.zero_le _, rfl, by simp [sumTo, sumL]⟩
    case round =>
      obtain ⟨k, hk, rfl, rfl⟩ := hrel
      by_cases hlt : k < c.W.length
      · have hy : c.W[k]? = some c.W[k] := List.getElem?_eq_getElem hlt
        obtain ⟨b, off, rfl, hbl, hc⟩ := hA (by intro h; rw [h] at hlt; simp at hlt)
        have e0 : w1.cell? ⟨b, off + k, none⟩ = some (.int .i64 (c.W[k]).1) := by
          have := (hb.cell (p := ⟨b, off + k * 1 + 0, none⟩) hbl).trans (hc k _ hy 0 _ rfl)
          simpa using this
        have hT := sumTo_succ c (fun i => memI l (i.val : Int)) hlt
        have b1 := sumTo_bd HM.out (fun i => memI l (i.val : Int)) (k + 1)
        rw [hT] at b1
        have HT := hide hT
        have HB1 := hide b1
        clear hT hy hc hA b1
        obtain ⟨y, hy⟩ : ∃ y, (c.W[k]).1 = y := ⟨_, rfl⟩
        rw [hy] at e0
        obtain ⟨a, ha⟩ : ∃ a, sumTo c (fun i => memI l (i.val : Int)) k = a := ⟨_, rfl⟩
        rw [ha]
        cases hmem : memI l (k : Int) with
        | true =>
          have HT3 : Hid (sumTo c (fun i => memI l (i.val : Int)) (k + 1) = a + y) := by unfold Hid; rw [HT.out, if_pos hmem, ha, hy]
          have b1 : 0 ≤ a + y ∧ a + y ≤ 13194139533312 := by have := HB1.out; rw [if_pos hmem, ha, hy] at this; exact this
          have HMM := hide hmem
          clear HT hy ha HB1 hmem
          go_wp2_with fail
          refine (rhasI_any l vl k _ hL1.out).mono ?_
          rw [HMM.out]
          rintro e w2 ⟨rfl, rfl⟩
          go_wp2
          go_round
          case rel => exact ⟨k + 1, by omega, by go_num, by rw [HT3.out]; try go_num⟩
          case measure => simp [intOf]; omega
        | false =>
          have HT3 : Hid (sumTo c (fun i => memI l (i.val : Int)) (k + 1) = a) := by unfold Hid; rw [HT.out, if_neg (by rw [hmem]; simp), ha]
          have HMM := hide hmem
          clear HT hy ha HB1 hmem
          go_wp2_with fail
          refine (rhasI_any l vl k _ hL1.out).mono ?_
          rw [HMM.out]
          rintro e w2 ⟨rfl, rfl⟩
          go_wp2
          go_round
          case rel => exact ⟨k + 1, by omega, by go_num, by rw [HT3.out]⟩
          case measure => simp [intOf]; omega
      · have hkl : k = c.W.length := by omega
        subst hkl
        have HE : Hid (weightC c l = sumTo c (fun i => memI l (i.val : Int)) c.W.length) := (sumTo_all c (fun i => memI l (i.val : Int)) HM.out).symm
        clear hlt hk hA
        go_wp2
        go_ret
        exact ⟨by first | (rw [HE.out]; done) | (rw [HE.out]; rfl), hb⟩
end Go.Proofs.Ytbfjoakaofgapaa
