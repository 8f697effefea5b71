/- marigoldlaw11.Few; marigoldref11.has, Has, Same, less. -/
import Derived.Test.YtbfjoakaofgapaaTold
import Derived.Test.YtbfjoakaofgapaaRef2
namespace Go.Proofs.Ytbfjoakaofgapaa
set_option linter.unusedSimpArgs false
set_option linter.unusedVariables false
set_option linter.unusedSectionVars false
open Go Go.RowKit
set_option maxRecDepth 100000

def few11 (c : Cnf) (l : List Blk) (v : List Lnk) : Bool := decide (c.W.length ≤ 40 ∧ l.length ≤ 20 ∧ v.length ≤ 40)
theorem few11_any (c : Cnf) (v : Value) (l : List Blk) (vl : Value) (ls : List Lnk) (vs : Value) (w : World) (hC : CnfAt w v c) (hS : Sl 5 encBlk w vl l) (hL : Sl 7 encLnk w vs ls) :
    Calls Try.prog 23 #[v, vl, vs] w fun e w' => e = .returned (.bool (few11 c l ls)) ∧ Below w.heap.size w w' := by
  obtain ⟨s, rfl, hs⟩ := hC
  have h1 := hs.len_le
  have h2 := hS.len_le
  have h3 := hL.len_le
  obtain ⟨A1, cap1, rfl, _, _, _⟩ := hs
  obtain ⟨A2, cap2, rfl, _, _, _⟩ := hS
  obtain ⟨A3, cap3, rfl, _, _, _⟩ := hL
  go_enter Try.func23, Try.ntmps23
  go_wp2
  all_goals
    go_ret
    refine ⟨congrArg (fun b => Ending.returned (Value.bool b)) ?_, below_alloc w _⟩
    rw [Bool.eq_iff_iff]
    simp [few11]
    try omega

/-! ### lists of checkpoints -/
set_option maxHeartbeats 1000000 in
theorem rhasC_any (l : List Chk) (v : Value) (x : Chk) (w : World) (hS : Sl 3 encChk w v l) :
    Calls Try.prog 71 #[v, vChk x] w fun e w' => e = .returned (.bool (decide (x ∈ l))) ∧ Below w.heap.size w w' := by
  have hlen := hS.len_le
  obtain ⟨A, cap, rfl, hcap, hmax, hA⟩ := hS
  clear hmax
  have hg := guardChk
  go_enter Try.func71, Try.ntmps71
  go_wp2
  obtain ⟨W, hW⟩ : ∃ W, w.alloc (.cells #[.int .i64 x.ep.1, .int .u64 x.root.a.1, .int .u64 x.root.b.1] 42) = W := ⟨_, rfl⟩
  have hbW : Below w.heap.size w W := by rw [← hW]; exact below_alloc w _
  have hB : Blok W w.heap.size 42 #[.int .i64 x.ep.1, .int .u64 x.root.a.1, .int .u64 x.root.b.1] := by rw [← hW]; exact Blok.new _ _ _
  rw [hW]
  clear hW
  have c0 := hB.cell 0
  have c1 := hB.cell 1
  have c2 := hB.cell 2
  go_loopw [5] (fun i wr => ∃ (k m : Nat), k ≤ l.length ∧ i = .int .i64 k ∧ wr = W.drewN m ∧ x ∉ l.take k) (fun i _ => l.length - (intOf i).toNat)
  case atStart => exact ⟨0, 0, Nat.zero_le _, rfl, rfl, by simp⟩
  case round =>
    obtain ⟨k, m, hk, rfl, rfl, hno⟩ := hrel
    have HN := hide hno
    clear hno
    by_cases hlt : k < l.length
    · obtain ⟨y, hy⟩ : ∃ y, l[k]? = some y := ⟨_, List.getElem?_eq_getElem hlt⟩
      obtain ⟨b, off, rfl, hbl, hc⟩ := hA (by intro h; subst h; simp at hlt)
      have e0 : W.cell? ⟨b, off + k * 3, none⟩ = some (.int .i64 y.ep.1) := (hbW.cell (p := ⟨b, _, none⟩) hbl).trans (hc k y hy 0 _ rfl)
      have e1 : W.cell? ⟨b, off + k * 3 + 1, none⟩ = some (.int .u64 y.root.a.1) := (hbW.cell (p := ⟨b, _, none⟩) hbl).trans (hc k y hy 1 _ rfl)
      have e2 : W.cell? ⟨b, off + k * 3 + 2, none⟩ = some (.int .u64 y.root.b.1) := (hbW.cell (p := ⟨b, _, none⟩) hbl).trans (hc k y hy 2 _ rfl)
      have HT := hide (take_snoc hy)
      have HM := hide (List.mem_of_getElem? hy)
      clear hy hc hA
      by_cases he : y = x
      · have HE : Hid (decide (x ∈ l) = true) := by unfold Hid; rw [← he]; exact decide_eq_true HM.out
        have hq : ∀ W', (Op.equalIn 10000 42 (.agg #[.int .i64 y.ep.1, .int .u64 y.root.a.1, .int .u64 y.root.b.1]) (.agg #[.int .i64 x.ep.1, .int .u64 x.root.a.1, .int .u64 x.root.b.1])).run Try.prog W' = .ok true W' := fun W' => by rw [run_equalIn_Chk, decide_eq_true he]
        clear he
        go_wp2
        go_quiet (fail)
        go_wp2
        go_ret
        exact ⟨by rw [HE.out]; rfl, below_drewN (below_drewN hbW _) _⟩
      · have HE := hide he
        have hq : ∀ W', (Op.equalIn 10000 42 (.agg #[.int .i64 y.ep.1, .int .u64 y.root.a.1, .int .u64 y.root.b.1]) (.agg #[.int .i64 x.ep.1, .int .u64 x.root.a.1, .int .u64 x.root.b.1])).run Try.prog W' = .ok false W' := fun W' => by rw [run_equalIn_Chk, decide_eq_false he]
        clear he
        go_wp2
        go_quiet (fail)
        go_wp2
        go_roundw
        case rel => exact ⟨k + 1, _, by omega, by go_num, rfl, by rw [HT.out, List.mem_append, List.mem_singleton]; exact fun h => h.elim HN.out (fun e => HE.out e.symm)⟩
        case measure => simp [intOf]; omega
    · have hkl : k = l.length := by omega
      subst hkl
      have hno := HN.out
      rw [List.take_length] at hno
      have HE : Hid (decide (x ∈ l) = false) := decide_eq_false hno
      clear hno HN hlt hk hA
      go_wp2
      go_ret
      exact ⟨by rw [HE.out]; rfl, below_drewN hbW _⟩
theorem rHasC_any (l : List Chk) (v : Value) (x : Chk) (w : World) (hS : Sl 3 encChk w v l) :
    Calls Try.prog 33 #[v, vChk x] w fun e w' => e = .returned (.bool (decide (x ∈ l))) ∧ Below w.heap.size w w' := by
  go_enter Try.func33, Try.ntmps33
  go_wp2_with fail
  refine (rhasC_any l v x _ (hS.alloc _)).mono ?_
  rintro e w1 ⟨rfl, hb⟩
  go_wp2
  go_ret
  exact ⟨rfl, below_then (below_alloc w _) (by simp) hb⟩
theorem rlessC_any (x y : Chk) (w : World) : Calls Try.prog 116 #[vChk x, vChk y] w fun e w' => e = .returned (.bool (ltC x y)) ∧ Below w.heap.size w w' := by
  go_enter Try.func116, Try.ntmps116
  go_wp2_with fail
  obtain ⟨W, hW⟩ : ∃ W, (w.alloc (.cells #[.int .i64 x.ep.1, .int .u64 x.root.a.1, .int .u64 x.root.b.1] 42)).alloc (.cells #[.int .i64 y.ep.1, .int .u64 y.root.a.1, .int .u64 y.root.b.1] 42) = W := ⟨_, rfl⟩
  have hbW : Below w.heap.size w W := by rw [← hW]; exact (below_alloc w _).alloc (by simp) _
  have hB1 : Blok W w.heap.size 42 #[.int .i64 x.ep.1, .int .u64 x.root.a.1, .int .u64 x.root.b.1] := by rw [← hW]; exact (Blok.new _ _ _).alloc _
  have hB2 : Blok W (w.heap.size + 1) 42 #[.int .i64 y.ep.1, .int .u64 y.root.a.1, .int .u64 y.root.b.1] := by rw [← hW]; simpa using Blok.new (w.alloc (.cells #[.int .i64 x.ep.1, .int .u64 x.root.a.1, .int .u64 x.root.b.1] 42)) 42 #[.int .i64 y.ep.1, .int .u64 y.root.a.1, .int .u64 y.root.b.1]
  rw [hW]
  clear hW
  refine (rless_any x.root y.root _).mono ?_
  rintro e w1 ⟨rfl, hb1⟩
  have hb := below_then hbW hbW.size hb1
  have c0 := (hB1.after hb1).cell 0
  have d0 := (hB2.after hb1).cell 0
  clear hbW hb1 hB1 hB2
  cases hl : lessID x.root y.root with
  | true =>
    have HL := hide hl
    clear hl
    go_wp2
    all_goals
      go_ret
      refine ⟨congrArg (fun b => Ending.returned (Value.bool b)) ?_, hb⟩
      rw [Bool.eq_iff_iff]
      simp [ltC, HL.out]
      try omega
  | false =>
    have HL := hide hl
    clear hl
    go_wp2
    all_goals
      go_ret
      refine ⟨congrArg (fun b => Ending.returned (Value.bool b)) ?_, hb⟩
      rw [Bool.eq_iff_iff]
      simp [ltC, HL.out]
      try omega
set_option maxHeartbeats 1000000 in
theorem rsameC_any (l m : List Chk) (v u : Value) (w : World) (hS : Sl 3 encChk w v l) (hM : Sl 3 encChk w u m) :
    Calls Try.prog 26 #[v, u] w fun e w' => e = .returned (.bool (decide (l = m))) ∧ Below w.heap.size w w' := by
  have hlen := hS.len_le
  have hlen2 := hM.len_le
  obtain ⟨A, cap, rfl, hcap, hmax, hA⟩ := hS
  obtain ⟨A2, cap2, rfl, hcap2, hmax2, hA2⟩ := hM
  clear hmax hmax2
  have hg := guardChk
  by_cases hl : l.length = m.length
  · have HL := hide hl
    have ht : ((l.length : Int) != m.length) = false := by simp [hl]
    clear hl
    go_enter Try.func26, Try.ntmps26
    go_wp2
    go_loopw [5] (fun i wr => ∃ (k q : Nat), k ≤ l.length ∧ i = .int .i64 k ∧ wr = w.drewN q ∧ l.take k = m.take k) (fun i _ => l.length - (intOf i).toNat)
    case atStart => exact ⟨0, 0, Nat.zero_le _, rfl, rfl, rfl⟩
    case round =>
      obtain ⟨k, q, hk, rfl, rfl, hno⟩ := hrel
      have HN := hide hno
      clear hno
      by_cases hlt : k < l.length
      · have hlt2 : k < m.length := by rw [← HL.out]; exact hlt
        obtain ⟨y, hy⟩ : ∃ y, l[k]? = some y := ⟨_, List.getElem?_eq_getElem hlt⟩
        obtain ⟨x, hx⟩ : ∃ x, m[k]? = some x := ⟨_, List.getElem?_eq_getElem hlt2⟩
        obtain ⟨b, off, rfl, hbl, hc⟩ := hA (by intro h; subst h; simp at hlt)
        obtain ⟨b2, off2, rfl, hbl2, hc2⟩ := hA2 (by intro h; subst h; simp at hlt2)
        have e0 : w.cell? ⟨b, off + k * 3, none⟩ = some (.int .i64 y.ep.1) := hc k y hy 0 _ rfl
        have e1 : w.cell? ⟨b, off + k * 3 + 1, none⟩ = some (.int .u64 y.root.a.1) := hc k y hy 1 _ rfl
        have e2 : w.cell? ⟨b, off + k * 3 + 2, none⟩ = some (.int .u64 y.root.b.1) := hc k y hy 2 _ rfl
        have f0 : w.cell? ⟨b2, off2 + k * 3, none⟩ = some (.int .i64 x.ep.1) := hc2 k x hx 0 _ rfl
        have f1 : w.cell? ⟨b2, off2 + k * 3 + 1, none⟩ = some (.int .u64 x.root.a.1) := hc2 k x hx 1 _ rfl
        have f2 : w.cell? ⟨b2, off2 + k * 3 + 2, none⟩ = some (.int .u64 x.root.b.1) := hc2 k x hx 2 _ rfl
        have HT := hide (take_snoc hy)
        have HT2 := hide (take_snoc hx)
        have HY := hide hy
        have HX := hide hx
        clear hy hx hc hc2 hA hA2
        by_cases he : y = x
        · have HE := hide he
          have hq : ∀ W', (Op.equalIn 10000 42 (.agg #[.int .i64 y.ep.1, .int .u64 y.root.a.1, .int .u64 y.root.b.1]) (.agg #[.int .i64 x.ep.1, .int .u64 x.root.a.1, .int .u64 x.root.b.1])).run Try.prog W' = .ok true W' := fun W' => by rw [run_equalIn_Chk, decide_eq_true he]
          clear he
          go_wp2
          go_quiet (fail)
          go_wp2
          go_roundw
          case rel => exact ⟨k + 1, _, by omega, by go_num, rfl, by rw [HT.out, HT2.out, HN.out, HE.out]⟩
          case measure => simp [intOf]; omega
        · have HE : Hid (decide (l = m) = false) := by
            unfold Hid
            apply decide_eq_false
            intro h
            have h1 := HY.out
            rw [h, HX.out] at h1
            exact he (Option.some.inj h1).symm
          have hq : ∀ W', (Op.equalIn 10000 42 (.agg #[.int .i64 y.ep.1, .int .u64 y.root.a.1, .int .u64 y.root.b.1]) (.agg #[.int .i64 x.ep.1, .int .u64 x.root.a.1, .int .u64 x.root.b.1])).run Try.prog W' = .ok false W' := fun W' => by rw [run_equalIn_Chk, decide_eq_false he]
          clear he
          go_wp2
          go_quiet (fail)
          go_wp2
          go_ret
          exact ⟨by rw [HE.out]; rfl, below_drewN (below_drewN (Below.refl _ _) _) _⟩
      · have hkl : k = l.length := by omega
        have HE : Hid (decide (l = m) = true) := by
          have h := HN.out
          rw [hkl, List.take_length, HL.out, List.take_length] at h
          exact decide_eq_true h
        have hge : l.length ≤ k := by omega
        clear hkl HN hA hA2
        go_wp2
        go_ret
        exact ⟨by rw [HE.out]; rfl, below_drewN (Below.refl _ _) _⟩
  · have HE : Hid (decide (l = m) = false) := decide_eq_false fun e => hl (by rw [e])
    have ht : ((l.length : Int) != m.length) = true := by simp; omega
    clear hl hA hA2
    go_enter Try.func26, Try.ntmps26
    go_wp2
    go_ret
    exact ⟨by rw [HE.out]; rfl, Below.refl _ _⟩
end Go.Proofs.Ytbfjoakaofgapaa
