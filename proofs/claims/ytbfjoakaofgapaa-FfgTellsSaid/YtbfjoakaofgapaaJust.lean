/- ffg.just: what is justified by ways that there are enough for. -/
import Derived.Test.YtbfjoakaofgapaaStrong
namespace Go.Proofs.Ytbfjoakaofgapaa
set_option linter.unusedSimpArgs false
set_option linter.unusedVariables false
set_option linter.unusedSectionVars false
open Go Go.RowKit
set_option maxRecDepth 100000

inductive Reach (W : Way → Prop) : Chk → Prop
  | zero : Reach W Chk.zero
  | step {y : Way} : W y → Reach W y.src → Reach W y.tgt
def JustRes (n0 : Nat) (W : List Way) (e : Ending) (w' : World) : Prop := ∃ o s, e = .returned (.map (some o)) ∧ SetAt vChk w' o s ∧ (∀ x, x ∈ s ↔ Reach (· ∈ W) x) ∧ n0 ≤ o
noncomputable def setSize (w : World) (b : Nat) : Nat := match w.heap[b]? with
  | some (.map es _) => es.size
  | _ => 0
theorem SetAt.size {α : Type} {encK : α → Value} {w : World} {b : Nat} {s : List α} (h : SetAt encK w b s) : setSize w b = s.length := by
  obtain ⟨es, clock, h1, h2, h3⟩ := h
  unfold setSize
  rw [h1]
  have := congrArg List.length h3
  simpa using this
/-- What the set holds in the midst of it. -/
def JustSet (W : List Way) (s : List Chk) : Prop := s.Nodup ∧ Chk.zero ∈ s ∧ (∀ x ∈ s, Reach (· ∈ W) x) ∧ ∀ x ∈ s, x ∈ Chk.zero :: W.map (·.tgt)
theorem JustSet.len {W : List Way} {s : List Chk} (h : JustSet W s) : s.length ≤ W.length + 1 := by
  have := nodup_sub h.1 h.2.2.2
  simpa using this
theorem JustSet.more {W : List Way} {s : List Chk} (h : JustSet W s) {y : Way} (hy : y ∈ W) (hs : y.src ∈ s) (ht : y.tgt ∉ s) : JustSet W (setPut s y.tgt) ∧ (setPut s y.tgt).length = s.length + 1 := by
  have e : setPut s y.tgt = s ++ [y.tgt] := by unfold setPut; rw [if_neg ht]
  refine ⟨⟨?_, mem_setPut.2 (.inl h.2.1), ?_, ?_⟩, by rw [e]; simp⟩
  · rw [e, List.nodup_append]
    refine ⟨h.1, by simp, ?_⟩
    intro a ha b hb e
    simp only [List.mem_singleton] at hb
    subst hb e
    exact ht ha
  · intro x hx
    rcases mem_setPut.1 hx with hx | rfl
    · exact h.2.2.1 x hx
    · exact .step hy (h.2.2.1 _ hs)
  · intro x hx
    rcases mem_setPut.1 hx with hx | rfl
    · exact h.2.2.2 x hx
    · exact List.mem_cons_of_mem _ (List.mem_map.2 ⟨y, hy, rfl⟩)
/-- A round of the inner loop has come to its end: none was to be put. -/
theorem JustSet.done {W : List Way} {s : List Chk} (h : JustSet W s) (hc : ∀ y ∈ W, y.src ∈ s → y.tgt ∈ s) (x : Chk) : x ∈ s ↔ Reach (· ∈ W) x := by
  refine ⟨h.2.2.1 x, fun hr => ?_⟩
  induction hr with
  | zero => exact h.2.1
  | step hy _ ih => exact hc _ hy ih
/-- The ways that are no longer to come have nothing to say. -/
def Idle (W left : List Way) (s : List Chk) : Prop := ∀ y ∈ W, y ∉ left → y.src ∈ s → y.tgt ∈ s

set_option maxHeartbeats 4000000 in
theorem just_any (W : List Way) (wb : Nat) (w : World) (hW : SetAt vWay w wb W) :
    Calls Try.prog 69 #[.map (some wb)] w fun e w' => JustRes w.heap.size W e w' ∧ Below w.heap.size w w' := by
  have hmm := @run_makeMap Try.prog
  have hlt := MapAt.lt hW
  go_enter Try.func69, Try.ntmps69
  go_wp2_with (first | go_step3 | (refine wpList_put (encV := vB) rfl (.tmp 5) (.tmp 6) (.const (.bool true)) 101 (.inr rfl) keyEncChk Try.underlying101 rfl (m := []) ?_ Chk.zero true rfl rfl ?_; exact MapAt.new w; intro w1 hm1 hg1))
  have hb1 : Below w.heap.size w w1 := (below_alloc w _).grown hg1 (by simp) (fun j hj => by cases hj; omega)
  have hw1 : SetAt vWay w1 wb W := MapAt.grown (MapAt.alloc hW _) hg1 (by simp; omega)
  have hs1 : SetAt vChk w1 w.heap.size [Chk.zero] := hm1
  have hz1 : w.heap.size < w1.heap.size := by have := hg1.size; simp at this; omega
  clear hm1 hg1 hmm
  go_loopw [8] (fun _ wr => ∃ s : List Chk, SetAt vChk wr w.heap.size s ∧ JustSet W s ∧ SetAt vWay wr wb W ∧ Below w.heap.size w wr ∧ w.heap.size < wr.heap.size) (fun _ wr => W.length + 1 - setSize wr w.heap.size)
  case atStart =>
    exact ⟨_, hs1, ⟨by simp, by simp, by simp; exact .zero, by simp⟩, hw1, hb1, hz1⟩
  case round =>
    obtain ⟨s, hs, hJ, hWr, hb, hz⟩ := hrel
    clear hs1 hw1 hb1 hz1
    obtain ⟨wo, hwo⟩ : ∃ wo, wo = wr := ⟨_, rfl⟩
    subst hwo
    go_wp2_with (at_range; refine wpList_rangeS rfl (.tmp 8) 103 rfl Try.underlying103 rfl hWr ?_; intro w2 hr2 hb2 hs2)
    go_frame
    have HS2 := hide (MapAt.after hs hb2)
    have HSo := hide hs
    have Hb2 := hide (below_then hb hb.size hb2)
    have Hz2 : Hid (wo.heap.size < w2.heap.size) := by unfold Hid; omega
    clear hb2 hs2 hs hb
    go_loopw [10] (fun _ wr => ∃ left : List Way, SRange vWay wr wb wo.heap.size W left ∧ SetAt vChk wr w.heap.size s ∧ Below w.heap.size w wr ∧ wo.heap.size < wr.heap.size ∧ Idle W left s ∧ ∀ p ∈ left, p ∈ W) (fun _ wr => rangeLeft wr wb wo.heap.size)
    case atStart => exact ⟨_, hr2, HS2.out, Hb2.out, Hz2.out, fun y hy hn => absurd hy hn, fun _ h => h⟩
    case round =>
      obtain ⟨left, hr, hs, hb, hzr, hI, hsub⟩ := hrel
      clear hr2 HS2 Hb2 Hz2 hWr
      go_wp2_with (at_next; refine wpList_nextS rfl (.tmp 9) rfl rfl hr ?_ ?_)
      · intro hl0
        subst hl0
        have hfin : JustRes w.heap.size W (.returned (.map (some w.heap.size))) wr := ⟨_, s, rfl, hs, hJ.done fun y hy hs => hI y hy (by simp) hs, Nat.le_refl _⟩
        have HF := hide hfin
        clear hfin
        go_wp2
        rw [Exit.noGoto_ret]
        go_ret
        exact ⟨HF.out, hb⟩
      · rintro y l1 l2 w3 hl hr3 hg3 hs3 hen
        subst hl
        dsimp only [vWay] at hen ⊢
        have hSn : SetAt vChk w3 w.heap.size s := MapAt.grown hs hg3 (by simp; omega)
        have hbn : Below w.heap.size w w3 := hb.grown hg3 hb.size (fun j hj => by cases hj; omega)
        have hyW := hsub y (by simp)
        have HSub : Hid (∀ p ∈ l1 ++ l2, p ∈ W) := fun p hp => hsub p (by simp only [List.mem_append, List.mem_cons] at hp ⊢; exact hp.elim .inl (fun h => .inr (.inr h)))
        have HI := hide hI
        have HLo := hide hr.left_eq
        have hz3 : wo.heap.size < w3.heap.size := by omega
        have HY := hide hyW
        have HJ := hide hJ
        clear hr hs hb hg3 hs3 hsub hI hyW hzr
        have L1 : ∀ x, (((look (s.map fun x => (x, true)) x).map vB).getD (.bool false)) = .bool (decide (x ∈ s)) := fun x => by
          rw [look_set]; by_cases h : x ∈ s <;> simp [h]
        have HL1 := hide L1
        clear L1
        by_cases hS : y.src ∈ s
        · by_cases hT : y.tgt ∈ s
          · have D1 := hide (decide_eq_true hS)
            have D2 := hide (decide_eq_true hT)
            have HT := hide hT
            clear hS hT
            go_wp2_with (first | (at_lookup; refine wpList_look (encV := vB) (m := s.map fun x => (x, true)) rfl (.tmp 14) (.tmp 16) 101 false rfl keyEncChk Try.underlying101 zeroBoolV rfl y.src rfl (MapAt.alloc hSn _) ?_; rw [if_neg Bool.false_ne_true, HL1.out, D1.out]) | (at_lookup; refine wpList_lookG (encV := vB) (m := s.map fun x => (x, true)) rfl (.tmp 19) (.tmp 21) 101 rfl keyEncChk Try.underlying101 zeroBoolV rfl y.tgt rfl (MapAt.alloc hSn _) ?_; rw [HL1.out, D2.out]))
            go_roundw
            case rel => exact ⟨_, hr3.alloc _, MapAt.alloc hSn _, hbn.alloc hbn.size _, by simp; omega, fun z hz hn hs => by
              by_cases e : z = y
              · subst e; exact HT.out
              · refine HI.out z hz (fun hm => ?_) hs
                simp only [List.mem_append, List.mem_cons] at hm hn
                rcases hm with hm | rfl | hm
                · exact hn (.inl hm)
                · exact e rfl
                · exact hn (.inr hm), HSub.out⟩
            case measure => rw [(hr3.alloc _).left_eq, HLo.out]; simp
          · have D1 := hide (decide_eq_true hS)
            have D2 := hide (decide_eq_false hT)
            obtain ⟨hJ2, hlen2⟩ := HJ.out.more HY.out hS hT
            have HJ2 := hide hJ2
            have Hlen2 := hide hlen2
            have hlen3 := HJ2.out.len
            have Hlen3 := hide hlen3
            clear hS hT hJ2 hlen2 hlen3
            go_wp2_with (first | (at_lookup; refine wpList_look (encV := vB) (m := s.map fun x => (x, true)) rfl (.tmp 14) (.tmp 16) 101 false rfl keyEncChk Try.underlying101 zeroBoolV rfl y.src rfl (MapAt.alloc hSn _) ?_; rw [if_neg Bool.false_ne_true, HL1.out, D1.out]) | (at_lookup; refine wpList_lookG (encV := vB) (m := s.map fun x => (x, true)) rfl (.tmp 19) (.tmp 21) 101 rfl keyEncChk Try.underlying101 zeroBoolV rfl y.tgt rfl (MapAt.alloc hSn _) ?_; rw [HL1.out, D2.out]) | (at_mapUpdate; refine wpList_put (encV := vB) (m := s.map fun x => (x, true)) rfl (.tmp 25) (.tmp 27) (.const (.bool true)) 101 (.inl rfl) keyEncChk Try.underlying101 rfl (MapAt.alloc hSn _) y.tgt true rfl rfl ?_; intro w7 hm7 hg7))
            go_frame
            rw [put_set] at hm7
            have hs7 : SetAt vChk w7 w.heap.size (setPut s y.tgt) := hm7
            have hz7 : wo.heap.size < w7.heap.size := by have := hg7.size; simp at this; omega
            have hb7 : Below w.heap.size w w7 := (hbn.alloc hbn.size _).grown hg7 (by simp; omega) (fun j hj => by cases hj; omega)
            have hW7 : SetAt vWay w7 wb W := MapAt.below hW hb7 hlt
            go_roundw
            case rel => exact ⟨_, hs7, HJ2.out, hW7, hb7, by omega⟩
            case measure =>
              rw [SetAt.size hs7, SetAt.size HSo.out]
              have := Hlen2.out
              have := Hlen3.out
              omega
        · have D1 := hide (decide_eq_false hS)
          have HS0 := hide hS
          clear hS
          go_wp2_with (first | (at_lookup; refine wpList_look (encV := vB) (m := s.map fun x => (x, true)) rfl (.tmp 14) (.tmp 16) 101 false rfl keyEncChk Try.underlying101 zeroBoolV rfl y.src rfl (MapAt.alloc hSn _) ?_; rw [if_neg Bool.false_ne_true, HL1.out, D1.out]))
          go_roundw
          case rel => exact ⟨_, hr3.alloc _, MapAt.alloc hSn _, hbn.alloc hbn.size _, by simp; omega, fun z hz hn hs => by
              by_cases e : z = y
              · subst e; exact absurd hs HS0.out
              · refine HI.out z hz (fun hm => ?_) hs
                simp only [List.mem_append, List.mem_cons] at hm hn
                rcases hm with hm | rfl | hm
                · exact hn (.inl hm)
                · exact e rfl
                · exact hn (.inr hm), HSub.out⟩
          case measure => rw [(hr3.alloc _).left_eq, HLo.out]; simp
end Go.Proofs.Ytbfjoakaofgapaa
