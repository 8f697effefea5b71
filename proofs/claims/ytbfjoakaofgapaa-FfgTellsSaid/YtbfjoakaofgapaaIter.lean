/- duty.Weight$1, duty.Total$1; duty.those$1 over each: a range over a function. -/
import Derived.Test.YtbfjoakaofgapaaDutyA
import Derived.RangeFuncNested
import Derived.RangeFuncBound
import Derived.RangeFuncCalls
import Derived.RangeFuncLeaves
import Derived.RangeFuncFrom
import Derived.Shelf.Abstract
import Derived.Shelf.RegionOpen
import Derived.OwnWalkIn
import Derived.TacticsInMore
import Derived.LoopNIn
import Derived.LoopIn
namespace Go.Proofs.Ytbfjoakaofgapaa
set_option linter.unusedSimpArgs false
set_option linter.unusedVariables false
set_option linter.unusedSectionVars false
open Go Go.RowKit Go.Shelf
attribute [local go_sem] Oper.semAt_some
set_option maxRecDepth 100000

theorem zeroBool (w : World) : (zeroValue 4).run Try.prog w = .ok (.bool false) w := by kernel_rfl
abbrev vBool (b : Bool) : Value := .bool b
theorem weightIs_any (i : I64) (g mb : Nat) (m : List (I64 × Bool)) (w : World) (hB : Blok w g 110 #[.map (some mb)]) (hm : MapAt vI vBool w mb m) :
    Calls Try.prog 77 #[.int .i64 i.1, .pointer (some ⟨g, 0, none⟩)] w fun e w' => e = .returned (.bool ((look m i).getD false)) ∧ w = w' := by
  have c0 := hB.cell 0
  cases hl : look m i with
  | none =>
    have HL := hide hl
    clear hl
    go_enter Try.func77, Try.ntmps77
    go_wp2_with (at_lookup; refine wpList_look (encV := vBool) (m := m) rfl (.tmp 4) (.tmp 5) 110 false rfl keyEncI Try.underlying110 zeroBool rfl i rfl hm ?_; rw [HL.out])
    go_ret
    exact ⟨rfl, rfl⟩
  | some b =>
    have HL := hide hl
    clear hl
    go_enter Try.func77, Try.ntmps77
    go_wp2_with (at_lookup; refine wpList_look (encV := vBool) (m := m) rfl (.tmp 4) (.tmp 5) 110 false rfl keyEncI Try.underlying110 zeroBool rfl i rfl hm ?_; rw [HL.out])
    go_ret
    exact ⟨rfl, rfl⟩
theorem totalIs_any (i : Int) (w : World) : Calls Try.prog 78 #[.int .i64 i] w fun e w' => e = .returned (.bool true) ∧ w = w' := by
  go_enter Try.func78, Try.ntmps78
  go_wp2
  go_ret
  exact ⟨rfl, rfl⟩
-- GEN

set_option maxHeartbeats 2000000 in
theorem thoseT1_in (n : Nat) (hn : 1 ≤ n) (l : Nat) (c : Cnf) (cb ib : Nat) (sv : Value) (p : Fin c.W.length → Bool) (w0 : World)
    (hcb : Blok w0 cb 25 #[sv, .int .u64 c.seed.1, .int .i64 c.epoch.1, .int .i64 c.num.1, .int .i64 c.den.1]) (hs : Sl 1 encI w0 sv c.W)
    (hib : Blok w0 ib 115 #[.func (.func 78) #[] #[]])
    (his : ∀ (x : Fin c.W.length) (W : World), Below w0.heap.size w0 W → Calls Try.prog 78 #[.int .i64 (x.val : Int)] W fun e w' => e = .returned (.bool (p x)) ∧ W = w')
    (J Jx : List (Fin c.W.length) → World → Prop) (W : World) (hW : Below w0.heap.size w0 W)
    (hY : ∀ pre x W1, J pre W1 → pre.length < c.W.length → YieldAt Fence.wide (n - 1) Try.prog l #[.int .i64 (x.val : Int)] W1 fun e W' =>
      (e = .returned (.bool true) ∧ J (pre ++ [x]) W' ∧ Below w0.heap.size W1 W') ∨ (e = .returned (.bool false) ∧ Jx (pre ++ [x]) W'))
    (h0 : J [] W) :
    CallsIn Fence.wide n Try.prog 117 #[.func (.yield l) #[] #[], .pointer (some ⟨cb, 0, none⟩), .pointer (some ⟨ib, 0, none⟩)] W fun e W' => (∃ v, e = .returned v) ∧
      ((∃ ys, ys = (List.finRange c.W.length).filter p ∧ J ys W') ∨ (∃ pre, True ∧ Jx pre W')) := by
  have hlen := hs.len_le
  have HI := hide his
  clear his
  refine callsIn_of_wp Try.func117 rfl trivial ?_ rfl
  simp only [Try.ntmps117, List.size_toArray, List.length_cons, List.length_nil, Nat.reduceAdd, Nat.reduceSub, Array.replicate_succ, Array.replicate_zero, List.push_toArray, List.append_toArray, List.nil_append, List.cons_append]
  obtain ⟨A, cap, rfl, hcap, hmax, hA⟩ := hs
  clear hA hmax
  have c0 := (hcb.below hW hcb.lt).cell 0
  gi_wp2
  gi_loopw [8] (fun i wr => ∃ k : Nat, k ≤ c.W.length ∧ i = .int .i64 k ∧ Below w0.heap.size w0 wr ∧ J (((List.finRange c.W.length).take k).filter p) wr) (fun i _ => c.W.length - (intOf i).toNat)
  case atStart => exact ⟨0, Nat.zero_le _, rfl, hW, h0⟩
  case round =>
    obtain ⟨k, hk, rfl, hb, hJs⟩ := hrel
    by_cases hlt : k < c.W.length
    · have e1 := (hib.below hb hib.lt).cell 0
      have hfr : (List.finRange c.W.length)[k]? = some ⟨k, hlt⟩ := by rw [List.getElem?_eq_getElem (by simpa using hlt)]; simp
      have HT := hide (take_snoc hfr)
      clear hfr
      have HL : (((List.finRange c.W.length).take k).filter p).length < c.W.length := Nat.lt_of_le_of_lt (List.length_filter_le _ _) (by rw [List.length_take, List.length_finRange]; omega)
      cases hp : p ⟨k, hlt⟩ with
      | true =>
        have HP := hide hp
        obtain ⟨fn, tmps, assign, body, hy, hR⟩ := hY _ ⟨k, hlt⟩ wr hJs HL
        have HR := hide hR
        have hc := HI.out ⟨k, hlt⟩ wr hb
        rw [hp] at hc
        have HC := hide hc
        clear hR HL hY h0 hp hc
        gi_wp2_with (refine ⟨trivial, ?_⟩; gi_at_call 78; refine (callsIn_wide.2 HC.out).mono ?_; rintro e w1 ⟨rfl, rfl⟩)
        refine HR.out.mono ?_
        rintro e W3 (⟨rfl, hJ3, hk3⟩ | ⟨rfl, hJx3⟩)
        · gi_wp2
          go_roundw
          case rel => exact ⟨k + 1, by omega, by go_num, hb.trans hk3, by rw [HT.out, List.filter_append, List.filter_cons_of_pos HP.out]; exact hJ3⟩
          case measure => simp [intOf]; omega
        · gi_wp2
          refine bodyPost_ret (results_none rfl _ _ _) rfl ?_
          exact ⟨⟨_, rfl⟩, .inr ⟨_, trivial, hJx3⟩⟩
      | false =>
        have HP := hide hp
        have hc := HI.out ⟨k, hlt⟩ wr hb
        rw [hp] at hc
        have HC := hide hc
        have HJ := hide hJs
        clear HL hY h0 hp hc hJs
        gi_wp2_with (refine ⟨trivial, ?_⟩; gi_at_call 78; refine (callsIn_wide.2 HC.out).mono ?_; rintro e w1 ⟨rfl, rfl⟩)
        refine ⟨fun _ h => (by cases h), ?_⟩
        gi_wp2
        go_roundw
        case rel => exact ⟨k + 1, by omega, by go_num, hb, by rw [HT.out, List.filter_append, List.filter_cons_of_neg (by rw [HP.out]; simp), List.filter_nil, List.append_nil]; exact HJ.out⟩
        case measure => simp [intOf]; omega
    · have hkl : k = c.W.length := by omega
      subst hkl
      have hfin : (List.finRange c.W.length).take c.W.length = List.finRange c.W.length := List.take_of_length_le (by simp)
      rw [hfin] at hJs
      have HJ := hide hJs
      clear hfin hJs hlt hk hY h0
      gi_wp2
      go_end0
      exact ⟨⟨_, rfl⟩, .inl ⟨_, rfl, HJ.out⟩⟩
theorem thoseT_stops (n : Nat) (hn : 1 ≤ n) (c : Cnf) (cb ib : Nat) (sv : Value) (p : Fin c.W.length → Bool) (w0 w : World) (hw : Below w0.heap.size w0 w)
    (hcb : Blok w0 cb 25 #[sv, .int .u64 c.seed.1, .int .i64 c.epoch.1, .int .i64 c.num.1, .int .i64 c.den.1]) (hs : Sl 1 encI w0 sv c.W)
    (hib : Blok w0 ib 115 #[.func (.func 78) #[] #[]])
    (his : ∀ (x : Fin c.W.length) (W : World), Below w0.heap.size w0 W → Calls Try.prog 78 #[.int .i64 (x.val : Int)] W fun e w' => e = .returned (.bool (p x)) ∧ W = w') :
    SeqStopsK Fence.wide n Try.prog 117 #[.pointer (some ⟨cb, 0, none⟩), .pointer (some ⟨ib, 0, none⟩)] (fun x : Fin c.W.length => #[.int .i64 (x.val : Int)]) (Below w0.heap.size)
      (fun ys => ys = (List.finRange c.W.length).filter p) (fun _ => True) c.W.length w :=
  fun l J Jx W hW _ _ hY h0 => thoseT1_in n hn l c cb ib sv p w0 hcb hs hib his J Jx W (hw.trans (hW.mono hw.size)) hY h0

set_option maxHeartbeats 2000000 in
theorem thoseW1_in (n : Nat) (hn : 1 ≤ n) (l : Nat) (c : Cnf) (cb ib : Nat) (sv : Value) (gb : Nat) (p : Fin c.W.length → Bool) (w0 : World)
    (hcb : Blok w0 cb 25 #[sv, .int .u64 c.seed.1, .int .i64 c.epoch.1, .int .i64 c.num.1, .int .i64 c.den.1]) (hs : Sl 1 encI w0 sv c.W)
    (hib : Blok w0 ib 115 #[.func (.func 77) #[] #[.pointer (some ⟨gb, 0, none⟩)]])
    (his : ∀ (x : Fin c.W.length) (W : World), Below w0.heap.size w0 W → Calls Try.prog 77 #[.int .i64 (x.val : Int), .pointer (some ⟨gb, 0, none⟩)] W fun e w' => e = .returned (.bool (p x)) ∧ W = w')
    (J Jx : List (Fin c.W.length) → World → Prop) (W : World) (hW : Below w0.heap.size w0 W)
    (hY : ∀ pre x W1, J pre W1 → pre.length < c.W.length → YieldAt Fence.wide (n - 1) Try.prog l #[.int .i64 (x.val : Int)] W1 fun e W' =>
      (e = .returned (.bool true) ∧ J (pre ++ [x]) W' ∧ Below w0.heap.size W1 W') ∨ (e = .returned (.bool false) ∧ Jx (pre ++ [x]) W'))
    (h0 : J [] W) :
    CallsIn Fence.wide n Try.prog 117 #[.func (.yield l) #[] #[], .pointer (some ⟨cb, 0, none⟩), .pointer (some ⟨ib, 0, none⟩)] W fun e W' => (∃ v, e = .returned v) ∧
      ((∃ ys, ys = (List.finRange c.W.length).filter p ∧ J ys W') ∨ (∃ pre, True ∧ Jx pre W')) := by
  have hlen := hs.len_le
  have HI := hide his
  clear his
  refine callsIn_of_wp Try.func117 rfl trivial ?_ rfl
  simp only [Try.ntmps117, List.size_toArray, List.length_cons, List.length_nil, Nat.reduceAdd, Nat.reduceSub, Array.replicate_succ, Array.replicate_zero, List.push_toArray, List.append_toArray, List.nil_append, List.cons_append]
  obtain ⟨A, cap, rfl, hcap, hmax, hA⟩ := hs
  clear hA hmax
  have c0 := (hcb.below hW hcb.lt).cell 0
  gi_wp2
  gi_loopw [8] (fun i wr => ∃ k : Nat, k ≤ c.W.length ∧ i = .int .i64 k ∧ Below w0.heap.size w0 wr ∧ J (((List.finRange c.W.length).take k).filter p) wr) (fun i _ => c.W.length - (intOf i).toNat)
  case atStart => exact ⟨0, Nat.zero_le _, rfl, hW, h0⟩
  case round =>
    obtain ⟨k, hk, rfl, hb, hJs⟩ := hrel
    by_cases hlt : k < c.W.length
    · have e1 := (hib.below hb hib.lt).cell 0
      have hfr : (List.finRange c.W.length)[k]? = some ⟨k, hlt⟩ := by rw [List.getElem?_eq_getElem (by simpa using hlt)]; simp
      have HT := hide (take_snoc hfr)
      clear hfr
      have HL : (((List.finRange c.W.length).take k).filter p).length < c.W.length := Nat.lt_of_le_of_lt (List.length_filter_le _ _) (by rw [List.length_take, List.length_finRange]; omega)
      cases hp : p ⟨k, hlt⟩ with
      | true =>
        have HP := hide hp
        obtain ⟨fn, tmps, assign, body, hy, hR⟩ := hY _ ⟨k, hlt⟩ wr hJs HL
        have HR := hide hR
        have hc := HI.out ⟨k, hlt⟩ wr hb
        rw [hp] at hc
        have HC := hide hc
        clear hR HL hY h0 hp hc
        gi_wp2_with (refine ⟨trivial, ?_⟩; gi_at_call 77; refine (callsIn_wide.2 HC.out).mono ?_; rintro e w1 ⟨rfl, rfl⟩)
        refine HR.out.mono ?_
        rintro e W3 (⟨rfl, hJ3, hk3⟩ | ⟨rfl, hJx3⟩)
        · gi_wp2
          go_roundw
          case rel => exact ⟨k + 1, by omega, by go_num, hb.trans hk3, by rw [HT.out, List.filter_append, List.filter_cons_of_pos HP.out]; exact hJ3⟩
          case measure => simp [intOf]; omega
        · gi_wp2
          refine bodyPost_ret (results_none rfl _ _ _) rfl ?_
          exact ⟨⟨_, rfl⟩, .inr ⟨_, trivial, hJx3⟩⟩
      | false =>
        have HP := hide hp
        have hc := HI.out ⟨k, hlt⟩ wr hb
        rw [hp] at hc
        have HC := hide hc
        have HJ := hide hJs
        clear HL hY h0 hp hc hJs
        gi_wp2_with (refine ⟨trivial, ?_⟩; gi_at_call 77; refine (callsIn_wide.2 HC.out).mono ?_; rintro e w1 ⟨rfl, rfl⟩)
        refine ⟨fun _ h => (by cases h), ?_⟩
        gi_wp2
        go_roundw
        case rel => exact ⟨k + 1, by omega, by go_num, hb, by rw [HT.out, List.filter_append, List.filter_cons_of_neg (by rw [HP.out]; simp), List.filter_nil, List.append_nil]; exact HJ.out⟩
        case measure => simp [intOf]; omega
    · have hkl : k = c.W.length := by omega
      subst hkl
      have hfin : (List.finRange c.W.length).take c.W.length = List.finRange c.W.length := List.take_of_length_le (by simp)
      rw [hfin] at hJs
      have HJ := hide hJs
      clear hfin hJs hlt hk hY h0
      gi_wp2
      go_end0
      exact ⟨⟨_, rfl⟩, .inl ⟨_, rfl, HJ.out⟩⟩
theorem thoseW_stops (n : Nat) (hn : 1 ≤ n) (c : Cnf) (cb ib : Nat) (sv : Value) (gb : Nat) (p : Fin c.W.length → Bool) (w0 w : World) (hw : Below w0.heap.size w0 w)
    (hcb : Blok w0 cb 25 #[sv, .int .u64 c.seed.1, .int .i64 c.epoch.1, .int .i64 c.num.1, .int .i64 c.den.1]) (hs : Sl 1 encI w0 sv c.W)
    (hib : Blok w0 ib 115 #[.func (.func 77) #[] #[.pointer (some ⟨gb, 0, none⟩)]])
    (his : ∀ (x : Fin c.W.length) (W : World), Below w0.heap.size w0 W → Calls Try.prog 77 #[.int .i64 (x.val : Int), .pointer (some ⟨gb, 0, none⟩)] W fun e w' => e = .returned (.bool (p x)) ∧ W = w') :
    SeqStopsK Fence.wide n Try.prog 117 #[.pointer (some ⟨cb, 0, none⟩), .pointer (some ⟨ib, 0, none⟩)] (fun x : Fin c.W.length => #[.int .i64 (x.val : Int)]) (Below w0.heap.size)
      (fun ys => ys = (List.finRange c.W.length).filter p) (fun _ => True) c.W.length w :=
  fun l J Jx W hW _ _ hY h0 => thoseW1_in n hn l c cb ib sv gb p w0 hcb hs hib his J Jx W (hw.trans (hW.mono hw.size)) hY h0

end Go.Proofs.Ytbfjoakaofgapaa
