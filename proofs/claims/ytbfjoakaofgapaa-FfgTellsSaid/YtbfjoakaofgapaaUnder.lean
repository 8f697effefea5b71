/- slices.Index, slices.Contains at IDs; tree.Under. -/
import Derived.Test.YtbfjoakaofgapaaChain
namespace Go.Proofs.Ytbfjoakaofgapaa
set_option linter.unusedSimpArgs false
set_option linter.unusedVariables false
set_option linter.unusedSectionVars false
open Go Go.RowKit
set_option maxRecDepth 100000

set_option maxHeartbeats 1000000 in
theorem indexID_any (l : List ID) (v : Value) (x : ID) (w : World) (hS : Sl 2 encID w v l) :
    Calls Try.prog 105 #[v, vID x] w fun e w' => ∃ r : Int, e = .returned (.int .i64 r) ∧ (0 ≤ r ↔ x ∈ l) ∧ Below w.heap.size w w' := by
  have hlen := hS.len_le
  obtain ⟨A, cap, rfl, hcap, hmax, hA⟩ := hS
  clear hmax
  have hg := guardID
  go_enter Try.func105, Try.ntmps105
  go_wp2
  obtain ⟨W, hW⟩ : ∃ W, w.alloc (.cells #[.int .u64 x.a.1, .int .u64 x.b.1] 28) = W := ⟨_, rfl⟩
  have hbW : Below w.heap.size w W := by rw [← hW]; exact below_alloc w _
  have hB : Blok W w.heap.size 28 #[.int .u64 x.a.1, .int .u64 x.b.1] := by rw [← hW]; exact Blok.new _ _ _
  rw [hW]
  clear hW
  have c0 := hB.cell 0
  have c1 := hB.cell 1
  go_loopw [8] (fun i wr => ∃ (k m : Nat), k ≤ l.length ∧ i = .int .i64 k ∧ wr = W.drewN m ∧ x ∉ l.take k) (fun i _ => l.length - (intOf i).toNat)
  case atStart => exact ⟨0, 0, Nat.zero_le _, rfl, rfl, by simp⟩
  case round =>
    obtain ⟨k, m, hk, rfl, rfl, hno⟩ := hrel
    by_cases hlt : k < l.length
    · obtain ⟨y, hy⟩ : ∃ y, l[k]? = some y := ⟨_, List.getElem?_eq_getElem hlt⟩
      obtain ⟨b, off, rfl, hbl, hc⟩ := hA (by intro h; subst h; simp at hlt)
      have e0 : W.cell? ⟨b, off + k * 2, none⟩ = some (.int .u64 y.a.1) := (hbW.cell (p := ⟨b, _, none⟩) hbl).trans (hc k y hy 0 _ rfl)
      have e1 : W.cell? ⟨b, off + k * 2 + 1, none⟩ = some (.int .u64 y.b.1) := (hbW.cell (p := ⟨b, _, none⟩) hbl).trans (hc k y hy 1 _ rfl)
      have hts := take_snoc hy
      have hm := List.mem_of_getElem? hy
      have HT := hide hts
      have HN := hide hno
      have HM := hide hm
      clear hts hy hc hA hno hm
      by_cases he : x = y
      · have HE := hide he
        have hq : ∀ W', (Op.equalIn 10000 28 (.agg #[.int .u64 x.a.1, .int .u64 x.b.1]) (.agg #[.int .u64 y.a.1, .int .u64 y.b.1])).run Try.prog W' = .ok true W' := fun W' => by rw [run_equalIn_ID, decide_eq_true he]
        clear he
        go_wp2
        go_quiet (fail)
        go_wp2
        go_ret
        exact ⟨k, rfl, ⟨fun _ => HE.out ▸ HM.out, fun _ => by omega⟩, below_drewN (below_drewN hbW _) _⟩
      · have HE := hide he
        have hq : ∀ W', (Op.equalIn 10000 28 (.agg #[.int .u64 x.a.1, .int .u64 x.b.1]) (.agg #[.int .u64 y.a.1, .int .u64 y.b.1])).run Try.prog W' = .ok false W' := fun W' => by rw [run_equalIn_ID, decide_eq_false he]
        clear he
        go_wp2
        go_quiet (fail)
        go_wp2
        go_roundw
        case rel => exact ⟨k + 1, _, by omega, by go_num, rfl, by rw [HT.out, List.mem_append, List.mem_singleton]; exact fun h => h.elim HN.out HE.out⟩
        case measure => simp [intOf]; omega
    · have hkl : k = l.length := by omega
      subst hkl
      rw [List.take_length] at hno
      have HN := hide hno
      clear hno hlt hk
      go_wp2
      go_ret
      exact ⟨-1, rfl, ⟨fun h => by omega, fun h => absurd h HN.out⟩, below_drewN hbW _⟩
theorem containsID_any (l : List ID) (v : Value) (x : ID) (w : World) (hS : Sl 2 encID w v l) :
    Calls Try.prog 62 #[v, vID x] w fun e w' => e = .returned (.bool (decide (x ∈ l))) ∧ Below w.heap.size w w' := by
  go_enter Try.func62, Try.ntmps62
  go_wp2_with fail
  refine (indexID_any l v x _ (hS.alloc _)).mono ?_
  rintro e w1 ⟨r, rfl, hr, hb⟩
  go_wp2
  go_ret
  exact ⟨rfl, below_then (below_alloc w _) (by simp) hb⟩
theorem under_any (l : List Blk) (v : Value) (low id : ID) (w : World) (hS : Sl 5 encBlk w v l) (hl : l.length ≤ 900000) :
    Calls Try.prog 21 #[v, vID low, vID id] w fun e w' => e = .returned (.bool (under l low id)) ∧ Below w.heap.size w w' := by
  go_enter Try.func21, Try.ntmps21
  go_wp2
  obtain ⟨W, hW⟩ : ∃ W, (w.alloc (.cells #[.int .u64 low.a.1, .int .u64 low.b.1] 28)).alloc (.cells #[.int .u64 id.a.1, .int .u64 id.b.1] 28) = W := ⟨_, rfl⟩
  have hsz : w.heap.size + 2 ≤ W.heap.size := by rw [← hW]; simp
  have hbW : Below w.heap.size w W := by rw [← hW]; exact (below_alloc w _).alloc (by simp) _
  have hB1 : Blok W w.heap.size 28 #[.int .u64 low.a.1, .int .u64 low.b.1] := by rw [← hW]; exact (Blok.new _ _ _).alloc _
  have hB2 : Blok W (w.heap.size + 1) 28 #[.int .u64 id.a.1, .int .u64 id.b.1] := by rw [← hW]; simpa using Blok.new (w.alloc (.cells #[.int .u64 low.a.1, .int .u64 low.b.1] 28)) 28 #[.int .u64 id.a.1, .int .u64 id.b.1]
  rw [hW]
  clear hW
  have hS' := hS.after hbW
  have r0 := hB1.ext 0 rfl
  have r1 := hB1.ext 1 rfl
  have r2 := hB2.ext 0 rfl
  have r3 := hB2.ext 1 rfl
  go_region_held3 (fun w' => Below W.heap.size W w') (first | exact below_drew W | exact below_ext (below_drew W) (by assumption) | exact below_ext (by assumption) (by assumption))
    (first | (go_at_call 20; refine (chain_any l v id _ (hS'.after (by first | exact below_drew W | assumption)) hl).mono ?_; rintro e w1 ⟨v1, rfl, hs1, hb1⟩) | (go_at_call 62; refine (containsID_any (chain l id) v1 low _ hs1).mono ?_; rintro e w2 ⟨rfl, hb2⟩))
  go_wp2
  go_ret
  exact ⟨rfl, below_then hbW hbW.size (below_ext (below_ext (below_drew W) hb1) hb2)⟩
end Go.Proofs.Ytbfjoakaofgapaa
