/- The reference of layer 5: what validators weigh. -/
import Derived.Test.YtbfjoakaofgapaaWeight
namespace Go.Proofs.Ytbfjoakaofgapaa
set_option linter.unusedSimpArgs false
set_option linter.unusedVariables false
set_option linter.unusedSectionVars false
open Go Go.RowKit
set_option maxRecDepth 100000

set_option maxHeartbeats 1000000 in
theorem rhasI_any (l : List I64) (v : Value) (n : Int) (w : World) (hS : Sl 1 encI w v l) :
    Calls Try.prog 142 #[v, .int .i64 n] w fun e w' => e = .returned (.bool (memI l n)) ∧ w = w' := by
  have hlen := hS.len_le
  obtain ⟨A, cap, rfl, hcap, hmax, hA⟩ := hS
  clear hmax
  go_enter Try.func142, Try.ntmps142
  go_wp2
  go_loop [5] (fun i => ∃ k : Nat, k ≤ l.length ∧ i = .int .i64 k ∧ memI (l.take k) n = false) (fun i => l.length - (intOf i).toNat)
  case atStart => exact ⟨0, Nat.zero_le _, rfl, rfl⟩
  case round =>
    obtain ⟨k, hk, rfl, hno⟩ := hrel
    have HN := hide hno
    clear hno
    by_cases hlt : k < l.length
    · obtain ⟨y, hy⟩ : ∃ y, l[k]? = some y := ⟨_, List.getElem?_eq_getElem hlt⟩
      obtain ⟨b, off, rfl, hbl, hc⟩ := hA (by intro h; subst h; simp at hlt)
      have e0 : w.cell? ⟨b, off + k, none⟩ = some (.int .i64 y.1) := by simpa using hc k y hy 0 _ rfl
      have HT := hide (take_snoc hy)
      have HM := hide (List.mem_of_getElem? hy)
      clear hy hc hA
      cases he : (y.1 == n) with
      | true =>
        have HE : Hid (memI l n = true) := by unfold Hid memI; rw [List.any_eq_true]; exact ⟨y, HM.out, he⟩
        go_wp2
        go_ret
        exact ⟨by rw [HE.out]; rfl, rfl⟩
      | false =>
        have HE : Hid (memI (l.take (k + 1)) n = false) := by unfold Hid; rw [HT.out]; have := HN.out; unfold memI at this ⊢; rw [List.any_append, this]; simp [he]
        go_wp2
        go_round
        case rel => exact ⟨k + 1, by omega, by go_num, HE.out⟩
        case measure => simp [intOf]; omega
    · have hkl : k = l.length := by omega
      subst hkl
      have hno := HN.out
      rw [List.take_length] at hno
      have HN' := hide hno
      clear hno HN hlt hk hA
      go_wp2
      go_ret
      exact ⟨by rw [HN'.out]; rfl, rfl⟩
def wFine (x : I64) : Bool := !(decide (x.1 < 0) || decide (1099511627776 < x.1))
theorem wFine_iff (x : I64) : wFine x = true ↔ 0 ≤ x.1 ∧ x.1 ≤ 1099511627776 := by
  unfold wFine; simp
set_option maxHeartbeats 2000000 in
theorem rmay_any (c : Cnf) (v : Value) (w : World) (hS : CnfAt w v c) :
    Calls Try.prog 63 #[v] w fun e w' => e = .returned (.bool (mayC c)) ∧ Below w.heap.size w w' := by
  obtain ⟨s, rfl, hs⟩ := hS
  have hlen := hs.len_le
  obtain ⟨A, cap, rfl, hcap, hmax, hA⟩ := hs
  clear hmax
  go_enter Try.func63, Try.ntmps63
  go_wp2
  obtain ⟨W, hW⟩ : ∃ W, w.alloc (.cells #[.slice A c.W.length cap, .int .u64 c.seed.1, .int .i64 c.epoch.1, .int .i64 c.num.1, .int .i64 c.den.1] 25) = W := ⟨_, rfl⟩
  have hbW : Below w.heap.size w W := by rw [← hW]; exact below_alloc w _
  have hB : Blok W w.heap.size 25 #[.slice A c.W.length cap, .int .u64 c.seed.1, .int .i64 c.epoch.1, .int .i64 c.num.1, .int .i64 c.den.1] := by rw [← hW]; exact Blok.new _ _ _
  rw [hW]
  clear hW
  have c0 := hB.cell 0
  have c2 := hB.cell 2
  have c3 := hB.cell 3
  have c4 := hB.cell 4
  go_loop [4] (fun i => ∃ k : Nat, k ≤ c.W.length ∧ i = .int .i64 k ∧ ∀ x ∈ c.W.take k, 0 ≤ x.1 ∧ x.1 ≤ 1099511627776) (fun i => c.W.length - (intOf i).toNat)
  case atStart => exact ⟨0, Nat.zero_le _, rfl, by simp⟩
  case round =>
    obtain ⟨k, hk, rfl, hall⟩ := hrel
    have HN := hide hall
    clear hall
    by_cases hlt : k < c.W.length
    · obtain ⟨y, hy⟩ : ∃ y, c.W[k]? = some y := ⟨_, List.getElem?_eq_getElem hlt⟩
      obtain ⟨b, off, rfl, hbl, hc⟩ := hA (by intro h; rw [h] at hlt; simp at hlt)
      have e0 : W.cell? ⟨b, off + k, none⟩ = some (.int .i64 y.1) := by
        have := (hbW.cell (p := ⟨b, off + k * 1 + 0, none⟩) hbl).trans (hc k y hy 0 _ rfl)
        simpa using this
      have HT := hide (take_snoc hy)
      have HM := hide (List.mem_of_getElem? hy)
      clear hy hc hA
      by_cases h0 : y.1 < 0
      · have HE : Hid (mayC c = false) := by unfold Hid mayC; rw [decide_eq_false]; rintro ⟨_, _, h, _⟩; have := (h y HM.out).1; omega
        go_wp2
        go_ret
        exact ⟨by rw [HE.out]; rfl, hbW⟩
      · by_cases h1 : 1099511627776 < y.1
        · have HE : Hid (mayC c = false) := by unfold Hid mayC; rw [decide_eq_false]; rintro ⟨_, _, h, _⟩; have := (h y HM.out).2; omega
          go_wp2
          go_ret
          exact ⟨by rw [HE.out]; rfl, hbW⟩
        · have hge : 0 ≤ y.1 := by omega
          have hle : y.1 ≤ 1099511627776 := by omega
          go_wp2
          go_round
          case rel =>
            refine ⟨k + 1, by omega, by go_num, ?_⟩
            rw [HT.out]
            intro x hx
            rw [List.mem_append, List.mem_singleton] at hx
            rcases hx with hx | rfl
            · exact HN.out x hx
            · exact ⟨hge, hle⟩
          case measure => simp [intOf]; omega
    · have hkl : k = c.W.length := by omega
      subst hkl
      have hno := HN.out
      rw [List.take_length] at hno
      have HE : Hid (mayC c = decide (1 ≤ c.W.length ∧ c.W.length ≤ 12 ∧ 0 < c.epoch.1 ∧ c.epoch.1 ≤ 8 ∧ 0 ≤ c.num.1 ∧ c.num.1 ≤ c.den.1 ∧ 0 < c.den.1 ∧ c.den.1 ≤ 1000)) := by
        unfold Hid mayC
        rw [decide_eq_decide]
        exact ⟨fun ⟨a, b, _, r⟩ => ⟨a, b, r⟩, fun ⟨a, b, r⟩ => ⟨a, b, hno, r⟩⟩
      clear hno HN hlt hk hA
      go_wp2
      all_goals
        go_ret
        rw [HE.out]
        refine ⟨congrArg (fun b => Ending.returned (Value.bool b)) ?_, hbW⟩
        rw [Bool.eq_iff_iff]
        simp
        omega
end Go.Proofs.Ytbfjoakaofgapaa
