/- marigoldlaw11.FfgEpochs: whatever comes in, true. -/
import Derived.Test.YtbfjoakaofgapaaLawWk
namespace Go.Proofs.Ytbfjoakaofgapaa
set_option linter.unusedSimpArgs false
set_option linter.unusedVariables false
set_option linter.unusedSectionVars false
open Go Go.RowKit
set_option maxRecDepth 100000

theorem any_snoc {α : Type} {l : List α} {k : Nat} {x : α} (h : l[k]? = some x) (f : α → Bool) : (l.take (k + 1)).any f = ((l.take k).any f || f x) := by
  rw [take_snoc h, List.any_append]; simp
set_option maxHeartbeats 4000000 in
theorem ffgEpochs_any (c : Cnf) (v : Value) (l : List Blk) (vl : Value) (ls : List Lnk) (vs : Value) (x : Lnk) (w : World) (hC : CnfAt w v c) (hS : Sl 5 encBlk w vl l) (hL : Sl 7 encLnk w vs ls) :
    Calls Try.prog 9 #[v, vl, vs, vLnk x] w fun e w' => e = .returned (.bool true) ∧ Below w.heap.size w w' := by
  have HC := hide hC
  have HS := hide hS
  have HL := hide hL
  obtain ⟨s, rfl, hs⟩ := hC
  have hlen := hL.len_le
  obtain ⟨A, cap, rfl, hcap, hmax, hA⟩ := hL
  clear hmax hs hS
  go_enter Try.func9, Try.ntmps9
  go_wp2_with fail
  obtain ⟨W, hW⟩ : ∃ W, (w.alloc (.cells #[s, .int .u64 c.seed.1, .int .i64 c.epoch.1, .int .i64 c.num.1, .int .i64 c.den.1] 25)).alloc (.cells #[.int .i64 x.frm.1, .int .i64 x.src.ep.1, .int .u64 x.src.root.a.1, .int .u64 x.src.root.b.1, .int .i64 x.tgt.ep.1, .int .u64 x.tgt.root.a.1, .int .u64 x.tgt.root.b.1] 44) = W := ⟨_, rfl⟩
  have hbW : Below w.heap.size w W := by rw [← hW]; exact (below_alloc w _).alloc (by simp) _
  have hB : Blok W w.heap.size 25 #[s, .int .u64 c.seed.1, .int .i64 c.epoch.1, .int .i64 c.num.1, .int .i64 c.den.1] := by rw [← hW]; exact (Blok.new _ _ _).alloc _
  have hX : Blok W (w.heap.size + 1) 44 #[.int .i64 x.frm.1, .int .i64 x.src.ep.1, .int .u64 x.src.root.a.1, .int .u64 x.src.root.b.1, .int .i64 x.tgt.ep.1, .int .u64 x.tgt.root.a.1, .int .u64 x.tgt.root.b.1] := by
    rw [← hW]; simpa using Blok.new (w.alloc (.cells #[s, .int .u64 c.seed.1, .int .i64 c.epoch.1, .int .i64 c.num.1, .int .i64 c.den.1] 25)) 44 #[.int .i64 x.frm.1, .int .i64 x.src.ep.1, .int .u64 x.src.root.a.1, .int .u64 x.src.root.b.1, .int .i64 x.tgt.ep.1, .int .u64 x.tgt.root.a.1, .int .u64 x.tgt.root.b.1]
  rw [hW]
  clear hW
  obtain ⟨xb, hxb⟩ : ∃ xb, xb = w.heap.size + 1 := ⟨_, rfl⟩
  rw [← hxb] at hX ⊢
  refine (awake_any _).mono ?_
  rintro e w1 ⟨rfl, hb1⟩
  replace hB := hB.after hb1
  replace hX := hX.after hb1
  have hb := below_then hbW hbW.size hb1
  clear hbW hb1 hxb
  have c0 := hB.cell 0
  have c1 := hB.cell 1
  have c2 := hB.cell 2
  have c3 := hB.cell 3
  have c4 := hB.cell 4
  go_wp2_with fail
  refine (few11_any c _ l vl ls _ _ (HC.out.after hb) (HS.out.after hb) (HL.out.after hb)).mono ?_
  rintro e w2 ⟨rfl, hb2⟩
  replace hB := hB.after hb2
  replace hX := hX.after hb2
  replace hb := below_then hb hb.size hb2
  clear hb2 c0 c1 c2 c3 c4
  cases hf : few11 c l ls with
  | false =>
    go_wp2
    go_ret
    exact ⟨rfl, hb⟩
  | true =>
    obtain ⟨hn1, hn2, hn3⟩ := few11_iff hf
    clear hf
    have r0 := hB.cell 0
    have r1 := hB.cell 1
    have r2 := hB.cell 2
    have r3 := hB.cell 3
    have r4 := hB.cell 4
    have x0 := hX.cell 0
    have x1 := hX.cell 1
    have x2 := hX.cell 2
    have x3 := hX.cell 3
    have x4 := hX.cell 4
    have x5 := hX.cell 5
    have x6 := hX.cell 6
    go_wp2_with fail
    refine (strongOf_any c _ l vl ls _ x.src x.tgt _ (HC.out.after hb) (HS.out.after hb) (by omega) (HL.out.after hb) (by omega)).mono ?_
    rintro e w3 ⟨rfl, hb3⟩
    replace hB := hB.after hb3
    replace hX := hX.after hb3
    replace hb := below_then hb hb.size hb3
    clear hb3 r0 r1 r2 r3 r4 x0 x1 x2 x3 x4 x5 x6
    have r0 := hB.cell 0
    have r1 := hB.cell 1
    have r2 := hB.cell 2
    have r3 := hB.cell 3
    have r4 := hB.cell 4
    have x0 := hX.cell 0
    have x1 := hX.cell 1
    have x2 := hX.cell 2
    have x3 := hX.cell 3
    have x4 := hX.cell 4
    have x5 := hX.cell 5
    have x6 := hX.cell 6
    by_cases hle : x.tgt.ep.1 ≤ x.src.ep.1
    · obtain ⟨hs1, hm1⟩ := epochs_back (c := c) (l := l) (v := ls) hle
      rw [hs1]
      have HM := hide hm1
      clear hs1 hm1
      go_wp2_with fail
      refine (ffgMay_any c _ l vl x _ (HC.out.after hb) (HS.out.after hb) (by omega)).mono ?_
      rw [HM.out]
      rintro e w4 ⟨rfl, hb4⟩
      have hb' := below_then hb hb.size hb4
      clear hb4 r0 r1 r2 r3 r4 x0 x1 x2 x3 x4 x5 x6
      go_wp2
      go_ret
      exact ⟨rfl, hb'⟩
    · have hlt' : x.src.ep.1 < x.tgt.ep.1 := by omega
      have HSt : Hid (strongB c l ls ⟨x.src, x.tgt⟩ = true → ls.any (oneB c l x) = true) := fun h => epochs_one h
      generalize strongB c l ls ⟨x.src, x.tgt⟩ = st at *
      clear hle
      have hg := guardChk
      go_wp2_with fail
      clear r0 r1 r2 r3 r4 x0 x1 x2 x3 x4 x5 x6
      go_loopw [12, 13] (fun v i wr => ∃ k : Nat, k ≤ ls.length ∧ i = .int .i64 k ∧ v = .bool ((ls.take k).any (oneB c l x)) ∧ Below w.heap.size w wr ∧ Blok wr w.heap.size 25 #[s, .int .u64 c.seed.1, .int .i64 c.epoch.1, .int .i64 c.num.1, .int .i64 c.den.1] ∧ Blok wr xb 44 #[.int .i64 x.frm.1, .int .i64 x.src.ep.1, .int .u64 x.src.root.a.1, .int .u64 x.src.root.b.1, .int .i64 x.tgt.ep.1, .int .u64 x.tgt.root.a.1, .int .u64 x.tgt.root.b.1]) (fun _ i _ => ls.length - (intOf i).toNat)
      case atStart => exact ⟨0, Nat.zero_le _, rfl, rfl, hb, hB, hX⟩
      case round =>
        clear hb hB hX
        obtain ⟨k, hk, rfl, rfl, hb, hB, hX⟩ := hrel
        by_cases hlt : k < ls.length
        · obtain ⟨y, hy⟩ : ∃ y, ls[k]? = some y := ⟨_, List.getElem?_eq_getElem hlt⟩
          obtain ⟨b, off, rfl, hbl, hc⟩ := hA (by intro h; subst h; simp at hlt)
          have hbr : b < wr.heap.size := Nat.lt_of_lt_of_le hbl hb.size
          have rd : ∀ i u, (encLnk y)[i]? = some u → ∀ w', Below wr.heap.size wr w' → w'.cell? ⟨b, off + k * 7 + i, none⟩ = some u := fun i u hu w' h => (h.cell (p := ⟨b, _, none⟩) hbr).trans ((hb.cell (p := ⟨b, _, none⟩) hbl).trans (hc k y hy i u hu))
          have e0 : ∀ w', Below wr.heap.size wr w' → w'.cell? ⟨b, off + k * 7, none⟩ = some (.int .i64 y.frm.1) := rd 0 _ rfl
          have e1 := rd 1 _ rfl
          have e2 := rd 2 _ rfl
          have e3 := rd 3 _ rfl
          have e4 := rd 4 _ rfl
          have e5 := rd 5 _ rfl
          have e6 := rd 6 _ rfl
          have f0 := e0 wr (Below.refl _ _)
          have f1 := e1 wr (Below.refl _ _)
          have f2 := e2 wr (Below.refl _ _)
          have f3 := e3 wr (Below.refl _ _)
          have f4 := e4 wr (Below.refl _ _)
          have f5 := e5 wr (Below.refl _ _)
          have f6 := e6 wr (Below.refl _ _)
          have x1 := hX.cell 1
          have x2 := hX.cell 2
          have x3 := hX.cell 3
          have x4 := hX.cell 4
          have x5 := hX.cell 5
          have x6 := hX.cell 6
          have HT := hide (any_snoc hy (oneB c l x))
          clear hy hc hA rd
          cases hp : (ls.take k).any (oneB c l x) with
          | true =>
            have HE : Hid ((ls.take (k + 1)).any (oneB c l x) = true) := by unfold Hid; rw [HT.out, hp]; rfl
            clear hp HT e0 e1 e2 e3 e4 e5 e6
            go_wp2
            go_quiet (fail)
            go_wp2
            go_roundw
            case rel => exact ⟨k + 1, by omega, by go_num, by rw [HE.out], below_drewN hb _, hB.drewN _, hX.drewN _⟩
            case measure => simp [intOf]; omega
          | false =>
            have HP := hide hp
            clear hp
            by_cases h1 : y.src = x.src
            · have q1 : ∀ W', (Op.equalIn 10000 42 (.agg #[.int .i64 y.src.ep.1, .int .u64 y.src.root.a.1, .int .u64 y.src.root.b.1]) (.agg #[.int .i64 x.src.ep.1, .int .u64 x.src.root.a.1, .int .u64 x.src.root.b.1])).run Try.prog W' = .ok true W' := fun W' => by rw [run_equalIn_Chk, decide_eq_true h1]
              have H1 := hide h1
              clear h1
              by_cases h2 : y.tgt = x.tgt
              · have q2 : ∀ W', (Op.equalIn 10000 42 (.agg #[.int .i64 y.tgt.ep.1, .int .u64 y.tgt.root.a.1, .int .u64 y.tgt.root.b.1]) (.agg #[.int .i64 x.tgt.ep.1, .int .u64 x.tgt.root.a.1, .int .u64 x.tgt.root.b.1])).run Try.prog W' = .ok true W' := fun W' => by rw [run_equalIn_Chk, decide_eq_true h2]
                have H2 := hide h2
                clear h2
                have HE : Hid ((ls.take (k + 1)).any (oneB c l x) = mayL c l y) := by
                  unfold Hid; rw [HT.out, HP.out]; unfold oneB; rw [decide_eq_true H1.out, decide_eq_true H2.out]; simp
                have r0 := hB.ext 0 rfl
                have r1 := hB.ext 1 rfl
                have r2 := hB.ext 2 rfl
                have r3 := hB.ext 3 rfl
                have r4 := hB.ext 4 rfl
                have s1 := hX.ext 1 rfl
                have s2 := hX.ext 2 rfl
                have s3 := hX.ext 3 rfl
                have s4 := hX.ext 4 rfl
                have s5 := hX.ext 5 rfl
                have s6 := hX.ext 6 rfl
                clear f0 f1 f2 f3 f4 f5 f6 x1 x2 x3 x4 x5 x6 HT
                obtain ⟨mb, hmb⟩ : ∃ mb, mayL c l y = mb := ⟨_, rfl⟩
                rw [hmb] at HE
                have HMB := hide hmb
                clear hmb
                obtain ⟨wo, hwo⟩ : ∃ wo, wo = wr := ⟨_, rfl⟩
                subst hwo
                go_wp2
                go_region_held3 (fun w' => Below wo.heap.size wo w') (first | exact below_drew wo | exact below_ext (below_drew wo) (by assumption) | exact below_ext (by assumption) (by assumption))
                  (first | (go_at_call 31; refine (ffgMay_any c _ l vl y _ ((HC.out.after hb).after (by first | assumption | exact below_drew wo)) ((HS.out.after hb).after (by first | assumption | exact below_drew wo)) (by omega)).mono ?_; rw [HMB.out]; rintro e w4 ⟨rfl, hb4⟩))
                all_goals
                  have hb5 := below_ext (below_drew wo) hb4
                  have hb' := below_then hb hb.size hb5
                  have hB' := hB.after hb5
                  have hX' := hX.after hb5
                  clear hb4 hb5 hB hX r0 r1 r2 r3 r4 s1 s2 s3 s4 s5 s6 e0 e1 e2 e3 e4 e5 e6 q1 q2
                  go_wp2
                  go_roundw
                  case rel => exact ⟨k + 1, by omega, by go_num, by rw [HE.out], hb', hB', hX'⟩
                  case measure => simp [intOf]; omega
              · have q2 : ∀ W', (Op.equalIn 10000 42 (.agg #[.int .i64 y.tgt.ep.1, .int .u64 y.tgt.root.a.1, .int .u64 y.tgt.root.b.1]) (.agg #[.int .i64 x.tgt.ep.1, .int .u64 x.tgt.root.a.1, .int .u64 x.tgt.root.b.1])).run Try.prog W' = .ok false W' := fun W' => by rw [run_equalIn_Chk, decide_eq_false h2]
                have HE : Hid ((ls.take (k + 1)).any (oneB c l x) = false) := by
                  unfold Hid; rw [HT.out, HP.out]; unfold oneB; rw [decide_eq_false h2]; simp
                clear HT e0 e1 e2 e3 e4 e5 e6 h2
                go_wp2
                go_quiet (fail)
                go_wp2
                go_roundw
                case rel => exact ⟨k + 1, by omega, by go_num, by rw [HE.out], below_drewN hb _, hB.drewN _, hX.drewN _⟩
                case measure => simp [intOf]; omega
            · have q1 : ∀ W', (Op.equalIn 10000 42 (.agg #[.int .i64 y.src.ep.1, .int .u64 y.src.root.a.1, .int .u64 y.src.root.b.1]) (.agg #[.int .i64 x.src.ep.1, .int .u64 x.src.root.a.1, .int .u64 x.src.root.b.1])).run Try.prog W' = .ok false W' := fun W' => by rw [run_equalIn_Chk, decide_eq_false h1]
              have HE : Hid ((ls.take (k + 1)).any (oneB c l x) = false) := by
                unfold Hid; rw [HT.out, HP.out]; unfold oneB; rw [decide_eq_false h1]; simp
              clear HT e0 e1 e2 e3 e4 e5 e6 h1
              go_wp2
              go_quiet (fail)
              go_wp2
              go_roundw
              case rel => exact ⟨k + 1, by omega, by go_num, by rw [HE.out], below_drewN hb _, hB.drewN _, hX.drewN _⟩
              case measure => simp [intOf]; omega
        · have hkl : k = ls.length := by omega
          subst hkl
          rw [List.take_length]
          clear hlt hk hA
          cases st with
          | false =>
            generalize ls.any (oneB c l x) = q at *
            go_wp2
            go_ret
            exact ⟨rfl, hb⟩
          | true =>
            rw [HSt.out rfl]
            go_wp2
            go_ret
            exact ⟨rfl, hb⟩
end Go.Proofs.Ytbfjoakaofgapaa
