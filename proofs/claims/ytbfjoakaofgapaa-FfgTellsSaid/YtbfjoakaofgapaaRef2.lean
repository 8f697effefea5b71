/- The reference of layer 2: words that hang on others. -/
import Derived.Test.YtbfjoakaofgapaaTree
namespace Go.Proofs.Ytbfjoakaofgapaa
set_option linter.unusedSimpArgs false
set_option linter.unusedVariables false
set_option linter.unusedSectionVars false
open Go Go.RowKit
set_option maxRecDepth 100000

theorem rless_any (x y : ID) (w : World) : Calls Try.prog 148 #[vID x, vID y] w fun e w' => e = .returned (.bool (lessID x y)) ∧ Below w.heap.size w w' := by
  go_enter Try.func148, Try.ntmps148
  go_wp2
  all_goals
    go_ret
    refine ⟨congrArg (fun b => Ending.returned (Value.bool b)) ?_, (below_alloc w _).alloc (by simp) _⟩
    rw [Bool.eq_iff_iff]
    simp [lessID]
    omega
theorem rword_any (x : Int) (w : World) : Calls Try.prog 200 #[.int .u64 x] w fun e w' => e = .returned (.int .u64 (wordZ x)) ∧ w = w' := by
  go_enter Try.func200, Try.ntmps200
  go_wp2
  go_ret
  exact ⟨rfl, rfl⟩
theorem rstep_any (h x : Int) (w : World) : Calls Try.prog 188 #[.int .u64 h, .int .u64 x] w fun e w' => e = .returned (.int .u64 (stepZ h x)) ∧ w = w' := by
  go_enter Try.func188, Try.ntmps188
  go_wp2_with fail
  refine (rword_any _ _).mono ?_
  rintro e w' ⟨rfl, rfl⟩
  go_wp2
  go_ret
  exact ⟨rfl, rfl⟩
theorem not_sub (x : U64) : IntKind.u64.wrap (18446744073709551615 - x.1) = (notU x).1 := by
  have h0 := x.lo
  have h1 := x.hi
  show _ = bits .xor .u64 18446744073709551615 x.1
  rw [u64_xor 18446744073709551615 x.1 (by omega) (by omega) h0 h1]
  obtain ⟨n, hn⟩ := Int.eq_ofNat_of_zero_le h0
  rw [hn] at h1 ⊢
  have hlt : n < 2 ^ 64 := by omega
  have e : (18446744073709551615 : Int).toNat ^^^ ((n : Nat) : Int).toNat = 2 ^ 64 - 1 - n := by
    have h := congrArg BitVec.toNat (BitVec.allOnes_xor (x := BitVec.ofNat 64 n))
    rw [BitVec.toNat_xor, BitVec.toNat_not, BitVec.toNat_allOnes, BitVec.toNat_ofNat, Nat.mod_eq_of_lt hlt] at h
    exact h
  rw [e]
  simp only [IntKind.wrap, IntKind.bits, IntKind.signed, Bool.false_and, Bool.false_eq_true, if_false]
  omega
/-- What comes in, and how many, behind. -/
theorem fold_len (l : List U64) (k : Nat) (x : U64) (h : (l ++ [u64 l.length])[k]? = some x) : (((l ++ [u64 l.length]).take (k + 1)).foldl takeID mixInit) = takeID (((l ++ [u64 l.length]).take k).foldl takeID mixInit) x := by
  rw [take_snoc h, List.foldl_append]; rfl
theorem takeID_a (F : ID) (x : U64) : (takeID F x).a.1 = stepZ F.a.1 x.1 := rfl
theorem takeID_b (F : ID) (x : U64) : (takeID F x).b.1 = stepZ F.b.1 (notU x).1 := rfl
set_option maxHeartbeats 1000000 in
theorem rof_any (l : List U64) (v : Value) (w : World) (hS : Sl 1 encU w v l) (hl : l.length ≤ 1000) :
    Calls Try.prog 172 #[v] w fun e w' => e = .returned (vID (mixOf l)) ∧ Below w.heap.size w w' := by
  obtain ⟨A, cap, rfl, hcap, hmax, hA⟩ := hS
  clear hmax
  go_enter Try.func172, Try.ntmps172
  go_wp2
  obtain ⟨W, hW⟩ : ∃ W, w.alloc (.cells #[.int .u64 0, .int .u64 0] 28) = W := ⟨_, rfl⟩
  have hbW : Below w.heap.size w W := by rw [← hW]; exact below_alloc w _
  have hB1 : Blok W w.heap.size 28 #[.int .u64 0, .int .u64 0] := by rw [← hW]; exact Blok.new _ _ _
  rw [hW]
  clear hW
  go_loop [3, 4, 5] (fun a b i => ∃ k : Nat, k ≤ l.length + 1 ∧ i = .int .i64 k ∧ a = .int .u64 (((l ++ [u64 l.length]).take k).foldl takeID mixInit).a.1 ∧ b = .int .u64 (((l ++ [u64 l.length]).take k).foldl takeID mixInit).b.1) (fun _ _ i => l.length + 1 - (intOf i).toNat)
  case atStart => exact ⟨0, by omega, rfl, rfl, rfl⟩
  case round =>
    obtain ⟨k, hk, rfl, rfl, rfl⟩ := hrel
    by_cases hlt : k < l.length
    · obtain ⟨x, hx⟩ : ∃ x, l[k]? = some x := ⟨_, List.getElem?_eq_getElem hlt⟩
      obtain ⟨b, off, rfl, hbl, hc⟩ := hA (by intro h; subst h; simp at hlt)
      have h0 : W.cell? ⟨b, off + k, none⟩ = some (.int .u64 x.1) := by
        have := (hbW.cell (p := ⟨b, off + k * 1 + 0, none⟩) hbl).trans (hc k x hx 0 _ rfl)
        simpa using this
      have HF := hide (fold_len l k x (by rw [List.getElem?_append_left hlt]; exact hx))
      have HN := hide (not_sub x)
      clear hx hc hA hbW hB1
      generalize ((l ++ [u64 l.length]).take k).foldl takeID mixInit = F at *
      go_wp2_with (go_at_call 188; refine (rstep_any _ _ _).mono ?_; rintro e w' ⟨rfl, rfl⟩)
      go_round
      case rel => exact ⟨k + 1, by omega, by go_num, congrArg (Value.int .u64) ((congrArg (fun i : ID => i.a.1) HF.out).trans (takeID_a _ _)).symm, congrArg (Value.int .u64) (((congrArg (fun i : ID => i.b.1) HF.out).trans (takeID_b _ _)).trans (congrArg (stepZ F.b.1) HN.out.symm)).symm⟩
      case measure => simp [intOf]; omega
    · by_cases hkl : k = l.length
      · have HK := hide hkl
        have HF := hide (fold_len l k (u64 l.length) (by rw [hkl, List.getElem?_append_right (Nat.le_refl _)]; simp))
        have HU : Hid ((u64 l.length).1 = (l.length : Int)) := by unfold Hid; rw [u64_in (by omega) (by omega)]
        have HN := hide (not_sub (u64 l.length))
        have hge : l.length ≤ k := by omega
        have hle : k ≤ l.length := by omega
        clear hA hbW hB1 hkl
        generalize ((l ++ [u64 l.length]).take k).foldl takeID mixInit = F at *
        go_wp2_with (go_at_call 188; refine (rstep_any _ _ _).mono ?_; rintro e w' ⟨rfl, rfl⟩)
        go_round
        case rel =>
          have hn := HN.out
          rw [HU.out] at hn
          have hn2 : 18446744073709551615 - (l.length : Int) = (notU (u64 l.length)).1 := by
            rw [← hn]
            simp only [IntKind.wrap, IntKind.bits, IntKind.signed, Bool.false_and, Bool.false_eq_true, if_false]
            omega
          exact ⟨k + 1, by omega, by go_num, congrArg (Value.int .u64) (((congrArg (fun i : ID => i.a.1) HF.out).trans (takeID_a _ _)).trans (congrArg (stepZ F.a.1) HU.out)).symm, congrArg (Value.int .u64) (((congrArg (fun i : ID => i.b.1) HF.out).trans (takeID_b _ _)).trans (congrArg (stepZ F.b.1) hn2.symm)).symm⟩
        case measure => simp [intOf]; omega
      · have hge : l.length < k := by omega
        have HM : Hid (((l ++ [u64 l.length]).take k).foldl takeID mixInit = mixOf l) := by
          unfold Hid
          rw [List.take_of_length_le (by simp; omega), List.foldl_append]; rfl
        have r0 := hB1.cell 0
        have r1 := hB1.cell 1
        have q0 := hB1.frozen 0
        have q1 := hB1.frozen 1
        generalize ((l ++ [u64 l.length]).take k).foldl takeID mixInit = F at *
        clear hA
        go_wp2
        have hbb := (hB1.set_ 0 (.int .u64 F.a.1)).set_ 1 (.int .u64 F.b.1)
        have c0 := hbb.cell 0
        have c1 := hbb.cell 1
        refine bodyPost_ret (v := vID F) (by simp [results, Try.results172, go_sem, c0, c1]) rfl ⟨by rw [HM.out], (hbW.setCell (p := ⟨_, 0, none⟩) (Nat.le_refl _) _).setCell (p := ⟨_, 1, none⟩) (Nat.le_refl _) _⟩
set_option maxHeartbeats 1000000 in
theorem rname_any (b : Blk) (w : World) : Calls Try.prog 141 #[vBlk b] w fun e w' => e = .returned (vID (nameB b)) ∧ Below w.heap.size w w' := by
  go_enter Try.func141, Try.ntmps141
  go_wp2_with fail
  obtain ⟨W, hW⟩ : ∃ W, (w.alloc (.cells #[.int .i64 b.slot.1, .int .i64 b.frm.1, .int .u64 b.par.a.1, .int .u64 b.par.b.1, .int .u64 b.salt.1] 67)).alloc (.cells #[.int .u64 0, .int .u64 0] 28) = W := ⟨_, rfl⟩
  have hsz : W.heap.size = w.heap.size + 1 + 1 := by rw [← hW]; simp
  have hbW : Below w.heap.size w W := by rw [← hW]; exact (below_alloc w _).alloc (by simp) _
  have hB1 : Blok W (w.heap.size + 1) 28 #[.int .u64 0, .int .u64 0] := by rw [← hW]; simpa using Blok.new (w.alloc (.cells #[.int .i64 b.slot.1, .int .i64 b.frm.1, .int .u64 b.par.a.1, .int .u64 b.par.b.1, .int .u64 b.salt.1] 67)) 28 #[.int .u64 0, .int .u64 0]
  rw [hW, ← hsz]
  clear hW
  refine (rof_any [u64 1, u64 b.slot.1, u64 b.frm.1, b.par.a, b.par.b, b.salt] _ _ (Sl.of_blok encU_len (Blok.new _ _ _) rfl (by simp [maxLen]) rfl) (by simp)).mono ?_
  rintro e w1 ⟨rfl, hb1⟩
  obtain ⟨N, hN⟩ : ∃ N, nameB b = N := ⟨_, rfl⟩
  rw [show mixOf [u64 1, u64 b.slot.1, u64 b.frm.1, b.par.a, b.par.b, b.salt] = N from hN]
  have HN := hide hN
  clear hN
  have hB1' := (hB1.alloc (.cells #[.int .u64 1, .int .u64 (u64 b.slot.1).1, .int .u64 (u64 b.frm.1).1, .int .u64 b.par.a.1, .int .u64 b.par.b.1, .int .u64 b.salt.1] 23)).after hb1
  have r0 := hB1'.cell 0
  have r1 := hB1'.cell 1
  have q0 := hB1'.frozen 0
  have q1 := hB1'.frozen 1
  have H := hide hsz
  clear hsz
  go_wp2
  have hbb := (hB1'.set_ 0 (.int .u64 N.a.1)).set_ 1 (.int .u64 N.b.1)
  have c0 := hbb.cell 0
  have c1 := hbb.cell 1
  refine bodyPost_ret (v := vID N) (by simp [results, Try.results141, go_sem, c0, c1]) rfl ⟨by rw [HN.out], ?_⟩
  exact ((below_then (hbW.alloc hbW.size _) (by have := hbW.size; simp; omega) hb1).setCell (p := ⟨_, 0, none⟩) (by simp) _).setCell (p := ⟨_, 1, none⟩) (by simp) _
end Go.Proofs.Ytbfjoakaofgapaa
