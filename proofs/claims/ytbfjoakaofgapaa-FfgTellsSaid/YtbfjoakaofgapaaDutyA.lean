/- slices.Min, slices.Max; duty.May. -/
import Derived.Test.YtbfjoakaofgapaaUnder
namespace Go.Proofs.Ytbfjoakaofgapaa
set_option linter.unusedSimpArgs false
set_option linter.unusedVariables false
set_option linter.unusedSectionVars false
open Go Go.RowKit
set_option maxRecDepth 100000

def MinOf (l : List I64) (r : Int) : Prop := (∀ x ∈ l, r ≤ x.1) ∧ (∃ x ∈ l, r = x.1)
set_option maxHeartbeats 1000000 in
theorem minI_any (l : List I64) (v : Value) (w : World) (hS : Sl 1 encI w v l) (hn : l ≠ []) :
    Calls Try.prog 97 #[v] w fun e w' => ∃ r : Int, e = .returned (.int .i64 r) ∧ MinOf l r ∧ w = w' := by
  have hlen := hS.len_le
  obtain ⟨A, cap, rfl, hcap, hmax, hA⟩ := hS
  clear hmax
  obtain ⟨b, off, rfl, hbl, hc⟩ := hA hn
  obtain ⟨y, ys, rfl⟩ := List.exists_cons_of_ne_nil hn
  have hpos : 1 ≤ (y :: ys).length := by simp
  have e0 : w.cell? ⟨b, off, none⟩ = some (.int .i64 y.1) := by simpa using hc 0 y rfl 0 _ rfl
  have HCC := hide hc
  clear hA hc hn
  generalize hl : y :: ys = l at *
  have HL := hide hl
  clear hl
  go_enter Try.func97, Try.ntmps97
  go_wp2
  go_loop [3, 4] (fun r i => ∃ (k : Nat) (m : Int), 1 ≤ k ∧ k ≤ l.length ∧ i = .int .i64 k ∧ r = .int .i64 m ∧ (∀ x ∈ l.take k, m ≤ x.1) ∧ (∃ x ∈ l, m = x.1)) (fun _ i => l.length - (intOf i).toNat)
  case atStart => exact ⟨1, y.1, by omega, by omega, rfl, rfl, by rw [← HL.out]; simp, y, by rw [← HL.out]; simp, rfl⟩
  case round =>
    obtain ⟨k, m, hk1, hk, rfl, rfl, hall, hex⟩ := hrel
    have HA := hide hall
    have HX := hide hex
    clear hall hex
    by_cases hlt : k < l.length
    · obtain ⟨z, hz⟩ : ∃ z, l[k]? = some z := ⟨_, List.getElem?_eq_getElem hlt⟩
      have ez : w.cell? ⟨b, off + k, none⟩ = some (.int .i64 z.1) := by simpa using HCC.out k z hz 0 _ rfl
      have HT := hide (take_snoc hz)
      have HM := hide (List.mem_of_getElem? hz)
      clear hz
      go_wp2
      all_goals
        go_round
        case rel =>
          refine ⟨k + 1, _, by omega, by omega, by go_num, rfl, ?_, ?_⟩
          · rw [HT.out]
            intro x hx
            rw [List.mem_append, List.mem_singleton] at hx
            rcases hx with hx | rfl
            · have := HA.out x hx; omega
            · omega
          · rcases Int.le_total m z.1 with h | h
            · obtain ⟨x, hx, he⟩ := HX.out
              exact ⟨x, hx, by rw [← he]; omega⟩
            · exact ⟨z, HM.out, by omega⟩
        case measure => simp [intOf]; omega
    · have hkl : k = l.length := by omega
      subst hkl
      have HA' := HA.out
      rw [List.take_length] at HA'
      have HB := hide HA'
      clear HA' HA hlt hk
      go_wp2
      go_ret
      exact ⟨m, rfl, ⟨HB.out, HX.out⟩, rfl⟩

def MaxOf (l : List I64) (r : Int) : Prop := (∀ x ∈ l, x.1 ≤ r) ∧ (∃ x ∈ l, r = x.1)
set_option maxHeartbeats 1000000 in
theorem maxI_any (l : List I64) (v : Value) (w : World) (hS : Sl 1 encI w v l) (hn : l ≠ []) :
    Calls Try.prog 98 #[v] w fun e w' => ∃ r : Int, e = .returned (.int .i64 r) ∧ MaxOf l r ∧ w = w' := by
  have hlen := hS.len_le
  obtain ⟨A, cap, rfl, hcap, hmax, hA⟩ := hS
  clear hmax
  obtain ⟨b, off, rfl, hbl, hc⟩ := hA hn
  obtain ⟨y, ys, rfl⟩ := List.exists_cons_of_ne_nil hn
  have hpos : 1 ≤ (y :: ys).length := by simp
  have e0 : w.cell? ⟨b, off, none⟩ = some (.int .i64 y.1) := by simpa using hc 0 y rfl 0 _ rfl
  have HCC := hide hc
  clear hA hc hn
  generalize hl : y :: ys = l at *
  have HL := hide hl
  clear hl
  go_enter Try.func98, Try.ntmps98
  go_wp2
  go_loop [3, 4] (fun r i => ∃ (k : Nat) (m : Int), 1 ≤ k ∧ k ≤ l.length ∧ i = .int .i64 k ∧ r = .int .i64 m ∧ (∀ x ∈ l.take k, x.1 ≤ m) ∧ (∃ x ∈ l, m = x.1)) (fun _ i => l.length - (intOf i).toNat)
  case atStart => exact ⟨1, y.1, by omega, by omega, rfl, rfl, by rw [← HL.out]; simp, y, by rw [← HL.out]; simp, rfl⟩
  case round =>
    obtain ⟨k, m, hk1, hk, rfl, rfl, hall, hex⟩ := hrel
    have HA := hide hall
    have HX := hide hex
    clear hall hex
    by_cases hlt : k < l.length
    · obtain ⟨z, hz⟩ : ∃ z, l[k]? = some z := ⟨_, List.getElem?_eq_getElem hlt⟩
      have ez : w.cell? ⟨b, off + k, none⟩ = some (.int .i64 z.1) := by simpa using HCC.out k z hz 0 _ rfl
      have HT := hide (take_snoc hz)
      have HM := hide (List.mem_of_getElem? hz)
      clear hz
      go_wp2
      all_goals
        go_round
        case rel =>
          refine ⟨k + 1, _, by omega, by omega, by go_num, rfl, ?_, ?_⟩
          · rw [HT.out]
            intro x hx
            rw [List.mem_append, List.mem_singleton] at hx
            rcases hx with hx | rfl
            · have := HA.out x hx; omega
            · omega
          · rcases Int.le_total z.1 m with h | h
            · obtain ⟨x, hx, he⟩ := HX.out
              exact ⟨x, hx, by rw [← he]; omega⟩
            · exact ⟨z, HM.out, by omega⟩
        case measure => simp [intOf]; omega
    · have hkl : k = l.length := by omega
      subst hkl
      have HA' := HA.out
      rw [List.take_length] at HA'
      have HB := hide HA'
      clear HA' HA hlt hk
      go_wp2
      go_ret
      exact ⟨m, rfl, ⟨HB.out, HX.out⟩, rfl⟩

/-- A conf. -/
def CnfAt (w : World) (v : Value) (c : Cnf) : Prop := ∃ s, v = .agg #[s, .int .u64 c.seed.1, .int .i64 c.epoch.1, .int .i64 c.num.1, .int .i64 c.den.1] ∧ Sl 1 encI w s c.W
theorem CnfAt.after {w w' : World} {v : Value} {c : Cnf} (h : CnfAt w v c) (hb : Below w.heap.size w w') : CnfAt w' v c := by
  obtain ⟨s, hv, hs⟩ := h
  exact ⟨s, hv, hs.after hb⟩
theorem CnfAt.drewN {w : World} {v : Value} {c : Cnf} (h : CnfAt w v c) (n : Nat) : CnfAt (w.drewN n) v c := h

set_option maxHeartbeats 2000000 in
theorem dutyMay_any (c : Cnf) (v : Value) (w : World) (hS : CnfAt w v c) :
    Calls Try.prog 55 #[v] w fun e w' => e = .returned (.bool (mayC c)) ∧ Below w.heap.size w w' := by
  obtain ⟨s, rfl, hs⟩ := hS
  have hlen := hs.len_le
  by_cases h0 : c.W = []
  · obtain ⟨A, cap, rfl, hcap, hmax, hA⟩ := hs
    have hl0 : c.W.length = 0 := by rw [h0]; rfl
    have hm : mayC c = false := by unfold mayC; rw [h0]; simp
    have H := hide hm
    clear hm h0 hA hmax
    have hz : ((c.W.length : Int) == 0) = true := by simp [hl0]
    have HZ := hide hl0
    clear hl0
    go_enter Try.func55, Try.ntmps55
    go_wp2
    go_ret
    rw [H.out]
    exact ⟨rfl, below_alloc w _⟩
  · have hz : ((c.W.length : Int) == 0) = false := by
      have : c.W.length ≠ 0 := fun e => h0 (List.eq_nil_of_length_eq_zero e)
      simp; exact h0
    have hs0 := hide hs
    obtain ⟨A, cap, rfl, hcap, hmax, hA⟩ := hs
    clear hA hmax
    by_cases h12 : 12 < c.W.length
    · have hm : mayC c = false := by unfold mayC; rw [decide_eq_false]; omega
      have H := hide hm
      have N0 := hide h0
      have hd : decide ((c.W.length : Int) > 12) = true := by simp; omega
      clear hm h0
      go_enter Try.func55, Try.ntmps55
      go_wp2
      go_ret
      rw [H.out]
      exact ⟨rfl, below_alloc w _⟩
    · have hd : decide ((c.W.length : Int) > 12) = false := by simp; omega
      have N0 := hide h0
      clear h0
      go_enter Try.func55, Try.ntmps55
      go_wp2_with fail
      refine (minI_any c.W _ _ (hs0.out.alloc _) N0.out).mono ?_
      rintro e w1 ⟨mn, rfl, hmn, rfl⟩
      by_cases h1 : mn < 0
      · have hm : mayC c = false := by
          unfold mayC; rw [decide_eq_false]
          rintro ⟨_, _, h, _⟩
          obtain ⟨x, hx, he⟩ := hmn.2
          have := (h x hx).1
          omega
        have H := hide hm
        have h1' : decide (mn < 0) = true := by simpa using h1
        clear hm
        go_wp2
        go_ret
        rw [H.out]
        exact ⟨rfl, below_alloc w _⟩
      · have h1' : decide (mn < 0) = false := by simpa using h1
        go_wp2_with fail
        refine (maxI_any c.W _ _ (hs0.out.alloc _) N0.out).mono ?_
        rintro e w1 ⟨mx, rfl, hmx, rfl⟩
        by_cases h2 : 1099511627776 < mx
        · have hm : mayC c = false := by
            unfold mayC; rw [decide_eq_false]
            rintro ⟨_, _, h, _⟩
            obtain ⟨x, hx, he⟩ := hmx.2
            have := (h x hx).2
            omega
          have H := hide hm
          have h2' : decide (mx > 1099511627776) = true := by simpa using h2
          clear hm
          go_wp2
          go_ret
          rw [H.out]
          exact ⟨rfl, below_alloc w _⟩
        · have h2' : decide (mx > 1099511627776) = false := by simpa using h2
          have hm : mayC c = decide (0 < c.epoch.1 ∧ c.epoch.1 ≤ 8 ∧ 0 ≤ c.num.1 ∧ c.num.1 ≤ c.den.1 ∧ 0 < c.den.1 ∧ c.den.1 ≤ 1000) := by
            unfold mayC
            rw [decide_eq_decide]
            constructor
            · rintro ⟨_, _, _, h⟩; exact h
            · intro h
              refine ⟨?_, by omega, fun x hx => ⟨?_, ?_⟩, h⟩
              · have : c.W.length ≠ 0 := fun e => N0.out (List.eq_nil_of_length_eq_zero e)
                omega
              · have := hmn.1 x hx; omega
              · have := hmx.1 x hx; omega
          have H := hide hm
          clear hm
          go_wp2
          all_goals
            go_ret
            rw [H.out]
            refine ⟨congrArg (fun b => Ending.returned (Value.bool b)) ?_, below_alloc w _⟩
            rw [Bool.eq_iff_iff]
            simp
            omega
end Go.Proofs.Ytbfjoakaofgapaa
