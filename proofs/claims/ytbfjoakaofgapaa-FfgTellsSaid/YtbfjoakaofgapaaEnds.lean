/- ffg.ends. -/
import Derived.Test.YtbfjoakaofgapaaFfgB
namespace Go.Proofs.Ytbfjoakaofgapaa
set_option linter.unusedSimpArgs false
set_option linter.unusedVariables false
set_option linter.unusedSectionVars false
open Go Go.RowKit
set_option maxRecDepth 100000

def midB (l : List Blk) (y : Way) (m : Chk) : Bool := decide (m.ep.1 = y.src.ep.1 + 1) && (under l y.src.root m.root && under l m.root y.tgt.root)
/-- Does a way make where it begins final? -/
def endsB (l : List Blk) (s : List Chk) (y : Way) : Bool := decide (y.tgt.ep.1 - y.src.ep.1 = 1) || (decide (y.tgt.ep.1 - y.src.ep.1 = 2) && s.any (midB l y))
/-- None of those that are no longer to come is in between. -/
def NoMid (l : List Blk) (s left : List Chk) (y : Way) : Prop := ∀ m ∈ s, m ∉ left → midB l y m = false
theorem NoMid.step {l : List Blk} {s l1 l2 : List Chk} {y : Way} {m : Chk} (h : NoMid l s (l1 ++ m :: l2) y) (hm : midB l y m = false) : NoMid l s (l1 ++ l2) y := fun x hx hn => by
  by_cases e : x = m
  · subst e; exact hm
  · refine h x hx (fun hx2 => hn ?_)
    simp only [List.mem_append, List.mem_cons] at hx2 ⊢
    rcases hx2 with hx2 | rfl | hx2
    · exact .inl hx2
    · exact absurd rfl e
    · exact .inr hx2

set_option maxHeartbeats 4000000 in
theorem ends_any (l : List Blk) (vl : Value) (s : List Chk) (sb : Nat) (y : Way) (w : World) (hS : Sl 5 encBlk w vl l) (hl : l.length ≤ 900000) (hs : SetAt vChk w sb s)
    (h0 : 0 ≤ y.src.ep.1) (h1 : y.src.ep.1 < y.tgt.ep.1) (h2 : y.tgt.ep.1 ≤ 1048576) :
    Calls Try.prog 73 #[vl, .map (some sb), vWay y] w fun e w' => e = .returned (.bool (endsB l s y)) ∧ Below w.heap.size w w' := by
  have HS := hide hS
  clear hS
  obtain ⟨d, hd⟩ : ∃ d, y.tgt.ep.1 - y.src.ep.1 = d := ⟨_, rfl⟩
  by_cases hd1 : d = 1
  · have hr : endsB l s y = true := by unfold endsB; rw [hd, hd1]; rfl
    have HR := hide hr
    have t1 : (y.tgt.ep.1 - y.src.ep.1 == 1) = true := by rw [hd, hd1]; rfl
    have hw := IntWalk.i64_in (y.tgt.ep.1 - y.src.ep.1) (by omega)
    clear hr hd hd1
    go_enter Try.func73, Try.ntmps73
    go_wp2_with fail
    go_ret
    exact ⟨by rw [HR.out]; rfl, below_alloc _ _⟩
  · by_cases hd2 : d = 2
    · have t1 : (y.tgt.ep.1 - y.src.ep.1 == 1) = false := by rw [hd]; simpa using hd1
      have t2 : (y.tgt.ep.1 - y.src.ep.1 == 2) = true := by rw [hd, hd2]; rfl
      have hw := IntWalk.i64_in (y.tgt.ep.1 - y.src.ep.1) (by omega)
      have hw1 := IntWalk.i64_in (y.src.ep.1 + 1) (by omega)
      have hE : endsB l s y = s.any (midB l y) := by unfold endsB; rw [hd, hd2]; simp
      have HE := hide hE
      have HX := hide h1
      clear hE hd hd1 hd2
      have hlt := MapAt.lt hs
      go_enter Try.func73, Try.ntmps73
      go_wp2_with (at_range; refine wpList_rangeS rfl (.tmp 19) 101 rfl Try.underlying101 rfl (MapAt.alloc hs _) ?_; intro w2 hr2 hb2 hs2)
      go_frame
      obtain ⟨W, hW⟩ : ∃ W, w.alloc (.cells #[.int .i64 y.src.ep.1, .int .u64 y.src.root.a.1, .int .u64 y.src.root.b.1, .int .i64 y.tgt.ep.1, .int .u64 y.tgt.root.a.1, .int .u64 y.tgt.root.b.1] 107) = W := ⟨_, rfl⟩
      have hbW : Below w.heap.size w W := by rw [← hW]; exact below_alloc _ _
      have hB : Blok W w.heap.size 107 #[.int .i64 y.src.ep.1, .int .u64 y.src.root.a.1, .int .u64 y.src.root.b.1, .int .i64 y.tgt.ep.1, .int .u64 y.tgt.root.a.1, .int .u64 y.tgt.root.b.1] := by rw [← hW]; exact Blok.new _ _ _
      have hWs : W.heap.size = w.heap.size + 1 := by rw [← hW]; simp
      rw [hW] at hr2 hb2 hs2 ⊢
      rw [hWs] at hr2 ⊢
      have hB2 := hB.after hb2
      have hb02 := below_then hbW hbW.size hb2
      clear hbW hB hb2 hW hs
      go_loopw [21] (fun _ wr => ∃ left : List Chk, SRange vChk wr sb (w.heap.size + 1) s left ∧ Below w.heap.size w wr ∧ w.heap.size + 2 ≤ wr.heap.size ∧
          Blok wr w.heap.size 107 #[.int .i64 y.src.ep.1, .int .u64 y.src.root.a.1, .int .u64 y.src.root.b.1, .int .i64 y.tgt.ep.1, .int .u64 y.tgt.root.a.1, .int .u64 y.tgt.root.b.1] ∧ NoMid l s left y ∧ ∀ m ∈ left, m ∈ s) (fun _ wr => rangeLeft wr sb (w.heap.size + 1))
      case atStart => exact ⟨_, hr2, hb02, by omega, hB2, fun m hm hn => absurd hm hn, fun _ h => h⟩
      case round =>
        obtain ⟨left, hr, hb, hz, hB, hN, hsub⟩ := hrel
        clear hr2 hb02 hB2 hs2
        go_wp2_with (at_next; refine wpList_nextS rfl (.tmp 20) rfl rfl hr ?_ ?_)
        · intro hl0
          subst hl0
          have HR : Hid (endsB l s y = false) := by
            unfold Hid
            rw [HE.out, List.any_eq_false]
            intro m hm
            rw [hN m hm (by simp)]
            simp
          clear hN
          go_wp2
          go_ret
          exact ⟨by rw [HR.out]; rfl, hb⟩
        · rintro m l1 l2 w3 hl hr3 hg3 hs3 hen
          subst hl
          dsimp only [vChk] at hen ⊢
          have hbn : Below w.heap.size w w3 := hb.grown hg3 hb.size (fun j hj => by cases hj; omega)
          have hBn := hB.grown hg3 (by simp)
          have HSub : Hid (∀ p ∈ l1 ++ l2, p ∈ s) := fun p hp => hsub p (by simp only [List.mem_append, List.mem_cons] at hp ⊢; exact hp.elim .inl (fun h => .inr (.inr h)))
          have HM := hide (hsub m (by simp))
          have HN := hide hN
          have HLo := hide hr.left_eq
          have hz3 : w.heap.size + 2 ≤ w3.heap.size := by omega
          have hz4 : w.heap.size < w3.heap.size := by omega
          clear hr hb hg3 hs3 hsub hN hz
          have c0 := hBn.cell 0
          have c1 := hBn.cell 1
          have c2 := hBn.cell 2
          have c3 := hBn.cell 3
          have c4 := hBn.cell 4
          have c5 := hBn.cell 5
          have HXB : Hid (Below w3.heap.size w3 (w3.alloc (.cells #[.int .i64 m.ep.1, .int .u64 m.root.a.1, .int .u64 m.root.b.1] 42))) := below_alloc _ _
          have hm2 : Hid (Blok (w3.alloc (.cells #[.int .i64 m.ep.1, .int .u64 m.root.a.1, .int .u64 m.root.b.1] 42)) w3.heap.size 42 #[.int .i64 m.ep.1, .int .u64 m.root.a.1, .int .u64 m.root.b.1]) := Blok.new _ _ _
          by_cases hm1 : m.ep.1 = y.src.ep.1 + 1
          · have t3 : (m.ep.1 == y.src.ep.1 + 1) = true := by simpa using hm1
            have HM1 := hide hm1
            clear hm1
            go_wp2_with fail
            refine (under_any l _ y.src.root m.root _ ((HS.out.after hbn).after HXB.out) hl).mono ?_
            rintro e w4 ⟨rfl, hb4⟩
            have hbB := HXB.out
            have hb34 := below_ext hbB hb4
            have hB4 := hm2.out.after hb4
            have hY4 := hBn.after hb34
            have hr4 := hr3.after hb34
            have hb04 := below_then hbn hbn.size hb34
            have hz5 : w.heap.size + 2 ≤ w4.heap.size := Nat.le_trans hz3 hb34.size
            clear hb4 hb34 hbB HXB hm2 hBn hr3 hbn hz3 hz4 c0 c1 c2 c3 c4 c5
            cases hu : under l y.src.root m.root with
            | false =>
              have HF : Hid (midB l y m = false) := by unfold Hid midB; rw [hu]; simp
              clear hu
              go_wp2_with fail
              go_roundw
              case rel => exact ⟨_, hr4, hb04, hz5, hY4, HN.out.step HF.out, HSub.out⟩
              case measure => rw [hr4.left_eq, HLo.out]; simp
            | true =>
              have HU := hide hu
              clear hu
              have c0 := hY4.cell 0
              have c1 := hY4.cell 1
              have c2 := hY4.cell 2
              have c3 := hY4.cell 3
              have c4 := hY4.cell 4
              have c5 := hY4.cell 5
              have d0 := hB4.cell 0
              have d1 := hB4.cell 1
              have d2 := hB4.cell 2
              go_wp2_with fail
              refine (under_any l _ m.root y.tgt.root _ (HS.out.after hb04) hl).mono ?_
              rintro e w5 ⟨rfl, hb5⟩
              have hY5 := hY4.after hb5
              have hr5 := hr4.after hb5
              have hb05 := below_then hb04 hb04.size hb5
              have hz6 : w.heap.size + 2 ≤ w5.heap.size := Nat.le_trans hz5 hb5.size
              clear hb5 hY4 hr4 hb04 hz5 hB4 c0 c1 c2 c3 c4 c5 d0 d1 d2
              cases hu2 : under l m.root y.tgt.root with
              | false =>
                have HF : Hid (midB l y m = false) := by unfold Hid midB; rw [hu2]; simp
                clear hu2
                go_wp2_with fail
                go_roundw
                case rel => exact ⟨_, hr5, hb05, hz6, hY5, HN.out.step HF.out, HSub.out⟩
                case measure => rw [hr5.left_eq, HLo.out]; simp
              | true =>
                have HF : Hid (endsB l s y = true) := by
                  unfold Hid
                  rw [HE.out, List.any_eq_true]
                  exact ⟨m, HM.out, by unfold midB; rw [HU.out, hu2, decide_eq_true HM1.out]; rfl⟩
                clear hu2
                go_wp2_with fail
                go_ret
                exact ⟨by rw [HF.out]; rfl, hb05⟩
          · have t3 : (m.ep.1 == y.src.ep.1 + 1) = false := by simpa using hm1
            have HF : Hid (midB l y m = false) := by unfold Hid midB; simp [hm1]
            clear hm1
            go_wp2_with fail
            go_roundw
            case rel => exact ⟨_, hr3.alloc _, hbn.alloc hbn.size _, by simp; omega, hBn.alloc _, HN.out.step HF.out, HSub.out⟩
            case measure => rw [(hr3.alloc _).left_eq, HLo.out]; simp
    · have hr : endsB l s y = false := by unfold endsB; rw [hd]; simp [hd1, hd2]
      have HR := hide hr
      have t1 : (y.tgt.ep.1 - y.src.ep.1 == 1) = false := by rw [hd]; simpa using hd1
      have t2 : (y.tgt.ep.1 - y.src.ep.1 == 2) = false := by rw [hd]; simpa using hd2
      have hw := IntWalk.i64_in (y.tgt.ep.1 - y.src.ep.1) (by omega)
      clear hr hd hd1 hd2
      go_enter Try.func73, Try.ntmps73
      go_wp2_with fail
      go_ret
      exact ⟨by rw [HR.out]; rfl, below_alloc _ _⟩
end Go.Proofs.Ytbfjoakaofgapaa
