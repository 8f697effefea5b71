/- slices.AppendSeq, slices.Collect, over the keys of a set of checkpoints. -/
import Derived.Test.YtbfjoakaofgapaaKeysIt
import Derived.Maps.OwnIn
namespace Go.Proofs.Ytbfjoakaofgapaa
set_option linter.unusedSimpArgs false
set_option linter.unusedVariables false
set_option linter.unusedSectionVars false
open Go Go.RowKit Go.Shelf
attribute [local go_sem] Oper.semAt_some
set_option maxRecDepth 100000

theorem keysIt_stops (n : Nat) (hn : 1 ≤ n) (Bm b : Nat) (s : List Chk) (w : World) (hm : Blok w Bm 101 #[.map (some b)]) (hs : SetAt vChk w b s) :
    SeqStopsK Fence.wide n Try.prog 145 #[.pointer (some ⟨Bm, 0, none⟩)] (fun x : Chk => #[vChk x]) KeepsWalks (fun ys => ys.Perm s) (fun _ => True) s.length w :=
  fun l J Jx W hW hJ _ hY h0 => keysIt_in n hn l Bm b s J Jx hY W hJ (hm.after hW) (hs.after hW) h0
/-- 'out = append(out, x)' in a fence. -/
theorem wpListIn_app {α : Type} {F : Fence} {n : Nat} {P : Program} {k bytes : Nat} {enc : α → List Value} (hk : ∀ x, (enc x).length = k) (hk0 : 0 < k) (h1 : ∀ x, ∀ u ∈ enc x, u.oneCell' = true) {e t : TypeId} {base : Nat} {w : World} {v : Value} {xs : List α} (x : α) (g : Nat)
    {ops : Array Oper} {rest : List Oper} {o : Oper} {a : Act} {Q : Exit → Act → World → Prop} (hgd : o.guard = none) (s y : Operand)
    (ho : o.op = .call { callee := .builtin .append, args := #[s, y], argTypes := #[t, t] })
    (ht : P.underlying t = some (.slice e)) {z : Value} (hi : (P.info? e).map (fun i => (i.zero, i.size, i.bytes)) = some (some z, k, bytes)) (hz : z.cells.size = k)
    (hs : a.eval s = v) (hy : a.eval y = .slice (some ⟨g, 0, none⟩) 1 1) (hB : Blok w g e (enc x).toArray) (hown : Own k enc e base w v xs)
    (hlen : xs.length ≤ 1000000) (hb : bytes ≤ 1000) (hbase : base ≤ w.heap.size)
    (hK : ∀ v' w', Own k enc e base w' v' (xs ++ [x]) → w.grownBy w' v.ownBlock → (v'.ownBlock = v.ownBlock ∨ v'.ownBlock = some w.heap.size) → wpListIn F n P ops Q rest (a.put o.dst v') w') : wpListIn F n P ops Q (o :: rest) a w := by
  obtain ⟨i0, hi0, hz0, hz1, hz2⟩ := info_parts hi
  have hmul : (xs.length + 1) * bytes ≤ 1000001 * 1000 := Nat.mul_le_mul (by omega) hb
  refine wpListIn_append_own_at _ hgd s y t ho base e i0 z k bytes ht hi0 hz0 hz1 hz2 hz hk0 v xs.length (xs.flatMap enc) hs hown ⟨g, 0, none⟩ 1 1 (enc x) hy (by rw [hk, Nat.one_mul]) ?_ (h1 x) (by simp only [maxLen]; omega) (by omega) hbase ?_
  · intro j u hu
    have : (⟨g, 0, none⟩ : Addr).add j = ⟨g, j, none⟩ := by
      unfold Addr.add
      by_cases h : j = 0 <;> simp [h]
    rw [this, hB.cell]
    simpa using hu
  · intro v' w' h2 h3 _ h4
    refine hK v' w' ?_ h3 h4
    unfold Own
    rw [List.length_append, List.flatMap_append]
    simpa using h2
theorem own_isCells {α : Type} {k : Nat} {enc : α → List Value} {e : TypeId} {base : Nat} {w : World} {v : Value} {xs : List α} (h : Own k enc e base w v xs) {j : Nat} {o : Obj} (hj : v.ownBlock = some j) (ho : w.heap[j]? = some o) : o.isCells = true := by
  rcases h.2 with ⟨rfl, _⟩ | ⟨g', cap, cur, rfl, _, hh, _⟩
  · simp [Value.ownBlock] at hj
  · simp [Value.ownBlock] at hj
    subst hj
    rw [hh] at ho
    cases ho
    rfl
/-- What comes of it: a new slice of those in the set, in some order. -/
def ColRes (w : World) (s : List Chk) (e : Ending) (w' : World) : Prop := ∃ v ys, e = .returned v ∧ ys.Perm s ∧ Own 3 encChk 42 w.heap.size w' v ys
theorem ownOf_own {β : Type} (n0 : Nat) (f : β → List Chk) (B : Nat) (bx : Nat) : OwnFrom B (fun (pre : β) W => ∃ v, Blok W bx 49 #[v] ∧ Own 3 encChk 42 n0 W v (f pre)) := fun pre X Y row hs hg hr => by
  obtain ⟨v, h1, h2⟩ := hs
  refine ⟨v, blok_own bx 49 (fun _ : Unit => #[v]) () X Y row h1 hg (fun r e => (hr r e).2), h2.grown hg ?_⟩
  cases hv : v.ownBlock with
  | none => exact .inl rfl
  | some g =>
    right
    intro e
    obtain ⟨_, o, ho, hc⟩ := hr g e.symm
    rcases h2.2 with ⟨rfl, _⟩ | ⟨g', cap, cur, rfl, _, hh, _⟩
    · simp [Value.ownBlock] at hv
    · simp [Value.ownBlock] at hv
      subst hv
      rw [hh] at ho
      cases ho
      cases hc
set_option maxHeartbeats 2000000 in
theorem appendSeq_any (gf : Nat) (lb : Array Value) (s : List Chk) (hlen : s.length ≤ 1000000) (w : World) (eg : ∀ args w, (callFunc gf args).run Try.prog w = .ok (.enter gf args) w)
    (hseq : SeqStopsK Fence.wide 4 Try.prog gf lb (fun x : Chk => #[vChk x]) KeepsWalks (fun ys => ys.Perm s) (fun _ => True) s.length w) :
    Calls Try.prog 173 #[.slice none 0 0, .func (.func gf) #[] lb] w fun e w' => ColRes w s e w' ∧ Below w.heap.size w w' := by
  refine (callsIn_wide (n := 5)).1 ?_
  refine callsIn_of_wp_marks Try.func173 rfl trivial ?_ rfl
  simp only [Try.ntmps173, List.size_toArray, List.length_cons, List.length_nil, Nat.reduceAdd, Nat.reduceSub, Array.replicate_succ, Array.replicate_zero, List.push_toArray, List.append_toArray, List.nil_append, List.cons_append]
  gi_wp2_with fail
  obtain ⟨w1, hw1⟩ : ∃ w1, w.alloc (.cells #[.slice none 0 0] 49) = w1 := ⟨_, rfl⟩
  have hb1 : Below w.heap.size w w1 := by rw [← hw1]; exact below_alloc w _
  have hB : Blok w1 w.heap.size 49 #[.slice none 0 0] := by rw [← hw1]; exact Blok.new _ _ _
  rw [hw1]
  clear hw1
  refine wpIn_rangeFunc_ownH rfl (by omega) (gf := gf) (lb := lb) rfl trivial eg
    hseq walksK_t walksK_b hb1 (fun _ => rfl)
    (fun pre W => (∃ v, Blok W w.heap.size 49 #[v] ∧ Own 3 encChk 42 (w.heap.size + 1) W v pre) ∧ Below w.heap.size w W)
    (fun _ _ _ => False)
    (OwnFrom.and (ownOf_own _ id _ _) (ownFrom_below (Nat.le_refl _) hb1.size))
    (fun _ _ _ _ _ hs _ _ => hs)
    ⟨⟨_, hB, Own.nil _ _⟩, hb1⟩
    (fun x a' W => ∃ g, a' = { tmps := #[.slice none 0 0, .func (.func gf) #[] lb, .pointer (some ⟨w.heap.size, 0, none⟩), undef, .slice none 0 0, .pointer (some ⟨g, 0, none⟩), .func (.func gf) #[] lb, vChk x, undef, undef, undef, undef, undef], defers := [] } ∧ g ≠ w.heap.size ∧ Blok W g 42 (encChk x).toArray)
    ?hax ?assign ?body ?done ?stop
  case hax =>
    rintro x a' _ X Y row ⟨g, h1, h2, h3⟩ hg hr
    exact ⟨g, h1, h2, blok_own g 42 (fun _ : Unit => (encChk x).toArray) () X Y row h3 hg (fun r e => (hr r e).2)⟩
  case assign =>
    rintro l pre x W K ⟨⟨v, hBx, hO⟩, hB⟩ hK
    have HK := hide hK
    clear hK hseq
    gi_wp2
    refine HK.out _ _ ((KeepsOthers.alloc _ _).from _) (KeepsWalks.alloc _ _) ⟨⟨v, hBx.alloc _, hO.alloc _⟩, hB.alloc hB.size _⟩ ⟨W.heap.size, rfl, by have := hBx.lt; omega, Blok.new _ _ _⟩
  case body =>
    rintro l pre x a' W hl hlr ⟨⟨v, hBx, hO⟩, hB⟩ ⟨g, rfl, hgne, hg⟩ hpl
    have c0 := hBx.cell 0
    have d0 := hg.cell 0
    have d1 := hg.cell 1
    have d2 := hg.cell 2
    simp only [encChk] at d0 d1 d2
    have hgl := hg.lt
    have hxl := hBx.lt
    clear hseq
    have hOa := hide (hO.alloc (.cells (encChk x).toArray 42))
    have hBa : Hid (Blok (W.alloc (.cells (encChk x).toArray 42)) W.heap.size 42 (encChk x).toArray) := Blok.new _ _ _
    have hlen1 := hide (Nat.le_trans (Nat.le_of_lt hpl) hlen)
    have hBx' := hide hBx
    have hB' := hide hB
    have hb1' := hide hb1.size
    clear hpl hlen hO hBx hB hb1
    gi_wp2_with (first | (gi_at_builtin; refine wpListIn_app encChk_len (by omega) encChk_one x W.heap.size rfl (.tmp 8) (.tmp 10) rfl Try.underlying49 infoChk rfl rfl rfl hBa.out hOa.out hlen1.out (by omega) (by have := hb1'.out; have := hB'.out.size; simp; omega) ?_; intro v' W5 ho5 hg5 hat5; have hBx5 := (hBx'.out.alloc (.cells (encChk x).toArray 42)).grown hg5 (hOa.out.ne (by omega)); obtain ⟨A', cap', rfl⟩ := ho5.shape; have e0 := hBx5.cell 0; have e1 := hBx5.frozen 0; go_frame) | gi_in)
    have hle : (pre ++ [x]).length = pre.length + 1 := by simp
    rw [hle] at ho5
    have hkO : KeepsOthers W (W5.setCell ⟨w.heap.size, 0, none⟩ (.slice A' (pre.length + 1) cap')) :=
      ((KeepsOthers.alloc W (.cells (encChk x).toArray 42)).trans (KeepsOthers.of_grownBy hg5 (fun j o hj ho => own_isCells hOa.out hj ho))).trans (KeepsOthers.setCell _ _ _)
    refine ⟨hkO.from _, hkO.walks, ⟨_, hBx5.set_ 0 _, ho5.grown ((grownBy_setCell' W5 w.heap.size _)) (.inr fun e => ho5.ne (g := w.heap.size) (by omega) e.symm)⟩, ?_⟩
    exact ((hB'.out.alloc hB'.out.size _).grown hg5 (by have := hB'.out.size; simp; omega) (fun j hj => by have := (hOa.out.lt hj).1; omega)).setCell (p := ⟨w.heap.size, 0, none⟩) (Nat.le_refl _) _
  case done =>
    rintro D ys W hD hp ⟨⟨v, hBx, hO⟩, hB⟩ hK
    have c0 := hBx.cell 0
    have HP := hide hp
    clear hseq hp
    have hneD : v.ownBlock = none ∨ v.ownBlock ≠ some D := by
      by_cases h : v.ownBlock = some D
      · exact absurd (own_isCells hO h hK) (by simp [Obj.isCells])
      · exact .inr h
    have hwD : w.heap.size ≤ D := Nat.le_trans hb1.size hD
    have HN := hide hneD
    have HO := hide hO
    have HB := hide hB
    have HK := hide hK
    clear hneD hO hB hBx hK
    gi_wp2
    refine ⟨by simp, .inl ⟨_, _, rfl, run_takeDeferred HK.out, ?_⟩⟩
    refine ⟨_, results_tmp rfl _ _ _, ⟨v, ys, rfl, HP.out, (HO.out.grown (grownBy_putObj' _ _ _) HN.out).mono (by omega)⟩, ?_⟩
    exact HB.out.grown (grownBy_putObj' _ _ _) HB.out.size (fun j hj => by cases hj; omega)
  case stop =>
    rintro D cc pre W _ _ h _
    exact h.elim

set_option maxHeartbeats 1000000 in
theorem collect_any (gf : Nat) (lb : Array Value) (s : List Chk) (hlen : s.length ≤ 1000000) (w : World) (eg : ∀ args w, (callFunc gf args).run Try.prog w = .ok (.enter gf args) w)
    (hseq : SeqStopsK Fence.wide 4 Try.prog gf lb (fun x : Chk => #[vChk x]) KeepsWalks (fun ys => ys.Perm s) (fun _ => True) s.length w) :
    Calls Try.prog 143 #[.func (.func gf) #[] lb] w fun e w' => ColRes w s e w' ∧ Below w.heap.size w w' := by
  go_enter Try.func143, Try.ntmps143
  go_wp2_with fail
  refine (appendSeq_any gf lb s hlen _ eg hseq).mono ?_
  rintro e w1 ⟨⟨v, ys, rfl, hp, ho⟩, hb⟩
  go_wp2
  go_ret
  exact ⟨⟨v, ys, rfl, hp, ho⟩, hb⟩
theorem keys_any (b : Nat) (w : World) : Calls Try.prog 113 #[.map (some b)] w fun e w' => e = .returned (.func (.func 145) #[] #[.pointer (some ⟨w.heap.size, 0, none⟩)]) ∧ w' = w.alloc (.cells #[.map (some b)] 101) := by
  go_enter Try.func113, Try.ntmps113
  go_wp2
  go_ret
  exact ⟨rfl, rfl⟩
theorem enterKeys : ∀ args w, (callFunc 145 args).run Try.prog w = .ok (.enter 145 args) w := enters_of Try.func145 (by kernel_rfl) rfl
end Go.Proofs.Ytbfjoakaofgapaa
