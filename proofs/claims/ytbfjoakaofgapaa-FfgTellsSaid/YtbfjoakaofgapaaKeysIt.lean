/- maps.Keys over a set of checkpoints; slices.AppendSeq, slices.Collect of it. -/
import Derived.Test.YtbfjoakaofgapaaJust
import Derived.Test.YtbfjoakaofgapaaSum
import Derived.Sort.MapsRangeIn
namespace Go.Proofs.Ytbfjoakaofgapaa
set_option linter.unusedSimpArgs false
set_option linter.unusedVariables false
set_option linter.unusedSectionVars false
open Go Go.RowKit Go.Shelf
attribute [local go_sem] Oper.semAt_some
set_option maxRecDepth 100000

section
variable {α : Type} {P : Program} {F : Fence} {n : Nat} {encK : α → Value} {w : World} {b r : Nat} {s left : List α}
theorem wpListIn_rangeS {ops : Array Oper} {rest : List Oper} {o : Oper} {a : Act} {Q : Exit → Act → World → Prop} (hg : o.guard = none) (x : Operand) (t : TypeId) (hop : o.op = Op.range t x) {k e : TypeId} (ht : P.underlying t = some (.map k e))
    (hx : a.eval x = .map (some b)) (hm : SetAt encK w b s)
    (hK : ∀ w', SRange encK w' b w.heap.size s s → Below w.heap.size w w' → w'.heap.size = w.heap.size + 1 → w.grownBy w' none → wpListIn F n P ops Q rest (a.put o.dst (.pointer (some ⟨w.heap.size, 0, none⟩))) w') : wpListIn F n P ops Q (o :: rest) a w := by
  refine wpListIn_plain hg fun K' hK' => ?_
  have hlt := MapAt.lt hm
  obtain ⟨es, clock, h1, h2, h3⟩ := hm
  unfold Oper.wpIn
  refine ⟨by simp [Oper.about, hop], ?_⟩
  rw [Oper.semAt_plain F _ _ (by rw [hop]; intro c hc'; cases hc')]
  simp [execOp, hop, hx, run_range_map w t k e b es clock ht h1, Result.andThen]
  refine hK' _ _ (hK _ ⟨es, clock, clock, #[], clock, (Below.heap_alloc w _ b hlt).trans h1, (MapKept.heap_alloc w _).1, h2, h2.1, Nat.le_refl _, Nat.le_refl _, h3, ?_⟩ (below_alloc _ _) (by simp) ⟨rfl, rfl, rfl, by simp, fun i hi _ => Below.heap_alloc w _ i hi⟩)
  have : leftOf es #[] = es := by unfold leftOf; exact Array.filter_eq_self.2 (fun _ _ => by simp)
  rw [this, h3]
theorem wpListIn_nextS {ops : Array Oper} {rest : List Oper} {o : Oper} {a : Act} {Q : Exit → Act → World → Prop} (hg : o.guard = none) (it : Operand) (hop : o.op = Op.next it false)
    (hit : a.eval it = .pointer (some ⟨r, 0, none⟩)) (h : SRange encK w b r s left)
    (hDone : left = [] → wpListIn F n P ops Q rest (a.put o.dst (.tuple #[.bool false])) w)
    (hMore : ∀ (y : α) (l1 l2 : List α) (w' : World), left = l1 ++ y :: l2 → SRange encK w' b r s (l1 ++ l2) → w.grownBy w' (some r) → w'.heap.size = w.heap.size →
      (Instr.entry (.pointer (some ⟨r, 0, none⟩))).run P w' = .ok (.tuple #[encK y, .bool true]) w' → wpListIn F n P ops Q rest (a.put o.dst (.tuple #[.bool true, encK y, .bool true])) w') : wpListIn F n P ops Q (o :: rest) a w := by
  refine wpListIn_plain hg fun K' hK' => ?_
  unfold Oper.wpIn
  refine ⟨by simp [Oper.about, hop], ?_⟩
  rw [Oper.semAt_plain F _ _ (by rw [hop]; intro c hc'; cases hc')]
  rcases next_stepS (P := P) o.type h with ⟨h0, hrun⟩ | ⟨y, l1, l2, w', hl, hr, hgr, hsz, hrun, hen⟩
  · simp [execOp, hop, hit, hrun, Result.andThen]
    exact hK' _ _ (hDone h0)
  · simp [execOp, hop, hit, hrun, Result.andThen]
    exact hK' _ _ (hMore y l1 l2 w' hl hr hgr hsz hen)
theorem SRange.walk (h : SRange encK w b r s left) : ∃ o : Obj, w.heap[r]? = some o ∧ o.isWalk = true := by
  obtain ⟨es, clock, since, seen, c0, h1, h2, _⟩ := h
  exact ⟨_, h2, rfl⟩
theorem SRange.of_walks {w' : World} (h : SRange encK w b r s left) (hk : KeepsWalks w w') : SRange encK w' b r s left := by
  obtain ⟨es, clock, since, seen, c0, h1, h2, h3⟩ := h
  exact ⟨es, clock, since, seen, c0, hk.same _ _ h1 rfl, hk.same _ _ h2 rfl, h3⟩
end

set_option maxHeartbeats 2000000 in
theorem keysIt_in (n : Nat) (hn : 1 ≤ n) (l Bm b : Nat) (s : List Chk) (J Jx : List Chk → World → Prop)
    (hY : ∀ pre x W1, J pre W1 → pre.length < s.length → YieldAt Fence.wide (n - 1) Try.prog l #[vChk x] W1 fun e W' =>
      (e = .returned (.bool true) ∧ J (pre ++ [x]) W' ∧ KeepsWalks W1 W') ∨ (e = .returned (.bool false) ∧ Jx (pre ++ [x]) W'))
    (W : World) (hJ : AbidesFrom W.heap.size J) (hm : Blok W Bm 101 #[.map (some b)]) (hs : SetAt vChk W b s) (h0 : J [] W) :
    CallsIn Fence.wide n Try.prog 145 #[.func (.yield l) #[] #[], .pointer (some ⟨Bm, 0, none⟩)] W fun e W' => (∃ v, e = .returned v) ∧
      ((∃ ys : List Chk, ys.Perm s ∧ J ys W') ∨ (∃ pre : List Chk, True ∧ Jx pre W')) := by
  refine callsIn_of_wp Try.func145 rfl trivial ?_ rfl
  simp only [Try.ntmps145, List.size_toArray, List.length_cons, List.length_nil, Nat.reduceAdd, Nat.reduceSub, Array.replicate_succ, Array.replicate_zero, List.push_toArray, List.append_toArray, List.nil_append, List.cons_append]
  have c0 := hm.cell 0
  gi_wp2_with (first | (gi_at_range; refine wpListIn_rangeS rfl (.tmp 4) 101 rfl Try.underlying101 rfl hs ?_; intro w0 hr0 hb0 hs0 hg0) | gi_in)
  go_frame
  gi_loopw [6] (fun _ wr => ∃ left ss : List Chk, SRange vChk wr b W.heap.size s left ∧ (ss ++ left).Perm s ∧ J ss wr) (fun _ wr => rangeLeft wr b W.heap.size)
  case atStart => exact ⟨s, [], hr0, by simp, hJ [] W w0 none h0 hg0 (fun r e => by cases e)⟩
  case round =>
    obtain ⟨left, ss, hr, hp, hJs⟩ := hrel
    clear hr0 hb0 hs0 hg0
    gi_wp2_with (first | (gi_at_next; refine wpListIn_nextS rfl (.tmp 5) rfl rfl hr ?_ ?_) | gi_in)
    · intro hl0
      subst hl0
      rw [List.append_nil] at hp
      have HP := hide hp
      have HJ := hide hJs
      clear hp hJs hY
      gi_wp2
      go_end0
      exact ⟨⟨_, rfl⟩, .inl ⟨ss, HP.out, HJ.out⟩⟩
    · rintro y l1 l2 w3 hl hr3 hg3 hs3 hen
      subst hl
      dsimp only [vChk] at hen ⊢
      have HP : Hid ((ss ++ [y] ++ (l1 ++ l2)).Perm s) := by
        refine List.Perm.trans ?_ hp
        rw [List.append_assoc]
        exact List.Perm.append_left ss ((List.perm_middle (l₁ := l1)).symm)
      have HLn : Hid (ss.length < s.length) := by
        have := hp.length_eq
        simp only [List.length_append, List.length_cons] at this
        unfold Hid
        omega
      have HLo := hide hr.left_eq
      have hJ2 : J ss w3 := hJ ss wr w3 (some W.heap.size) hJs hg3 (fun r e => by cases e; exact ⟨Nat.le_refl _, hr.walk⟩)
      obtain ⟨w4, hw4⟩ : ∃ w4, w3.alloc (.cells #[.int .i64 y.ep.1, .int .u64 y.root.a.1, .int .u64 y.root.b.1] 42) = w4 := ⟨_, rfl⟩
      have hB4 : Blok w4 w3.heap.size 42 #[.int .i64 y.ep.1, .int .u64 y.root.a.1, .int .u64 y.root.b.1] := by rw [← hw4]; exact Blok.new _ _ _
      have d0 := hB4.cell 0
      have d1 := hB4.cell 1
      have d2 := hB4.cell 2
      have hg4 : w3.grownBy w4 none := by rw [← hw4]; exact World.grownBy_alloc _ _ none
      have hJ4 : J ss w4 := hJ ss w3 w4 none hJ2 hg4 (fun r e => by cases e)
      have hr4 : SRange vChk w4 b W.heap.size s (l1 ++ l2) := by rw [← hw4]; exact hr3.alloc _
      obtain ⟨fn, tmps, assign, body, hy, hR⟩ := hY ss y w4 hJ4 HLn.out
      have HR := hide hR
      dsimp only [vChk] at hy
      clear hR hp hs3 hY hJ hJs hJ2 hr hr3 hg3 h0
      gi_wp2_with fail
      refine HR.out.mono ?_
      rintro e W3 (⟨rfl, hJ3, hk3⟩ | ⟨rfl, hJx3⟩)
      · have hr5 := hr4.of_walks hk3
        have HJ5 := hide hJ3
        clear hJ3 hk3 hr4 HR hy hw4 hJ4
        gi_wp2
        go_roundw
        case rel => exact ⟨_, ss ++ [y], hr5, HP.out, HJ5.out⟩
        case measure => rw [hr5.left_eq, HLo.out]; simp
      · have HJ5 := hide hJx3
        clear hJx3 hr4 HR hy hw4 hJ4
        gi_wp2
        refine bodyPost_ret (results_none rfl _ _ _) rfl ?_
        exact ⟨⟨_, rfl⟩, .inr ⟨_, trivial, HJ5.out⟩⟩
end Go.Proofs.Ytbfjoakaofgapaa
