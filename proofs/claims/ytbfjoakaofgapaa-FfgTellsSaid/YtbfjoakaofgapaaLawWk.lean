/- marigoldlaw11.FfgWeak, FfgEpochs: whatever comes in, true. -/
import Derived.Test.YtbfjoakaofgapaaLawP
import Derived.Test.YtbfjoakaofgapaaAwake
import Derived.Test.YtbfjoakaofgapaaFew11
namespace Go.Proofs.Ytbfjoakaofgapaa
set_option linter.unusedSimpArgs false
set_option linter.unusedVariables false
set_option linter.unusedSectionVars false
open Go Go.RowKit
set_option maxRecDepth 100000

theorem few11_iff {c : Cnf} {l : List Blk} {v : List Lnk} (h : few11 c l v = true) : c.W.length ≤ 40 ∧ l.length ≤ 20 ∧ v.length ≤ 40 := of_decide_eq_true h
set_option maxHeartbeats 4000000 in
theorem ffgWeak_any (c : Cnf) (v : Value) (l : List Blk) (vl : Value) (ls : List Lnk) (vs : Value) (w : World) (hC : CnfAt w v c) (hS : Sl 5 encBlk w vl l) (hL : Sl 7 encLnk w vs ls) :
    Calls Try.prog 8 #[v, vl, vs] w fun e w' => e = .returned (.bool true) ∧ Below w.heap.size w w' := by
  have HC := hide hC
  have HS := hide hS
  have HL := hide hL
  obtain ⟨s, rfl, hs⟩ := hC
  have hlen := hL.len_le
  obtain ⟨A, cap, rfl, hcap, hmax, hA⟩ := hL
  clear hmax hs hS
  go_enter Try.func8, Try.ntmps8
  go_wp2_with fail
  obtain ⟨W, hW⟩ : ∃ W, w.alloc (.cells #[s, .int .u64 c.seed.1, .int .i64 c.epoch.1, .int .i64 c.num.1, .int .i64 c.den.1] 25) = W := ⟨_, rfl⟩
  have hbW : Below w.heap.size w W := by rw [← hW]; exact below_alloc w _
  have hB : Blok W w.heap.size 25 #[s, .int .u64 c.seed.1, .int .i64 c.epoch.1, .int .i64 c.num.1, .int .i64 c.den.1] := by rw [← hW]; exact Blok.new _ _ _
  rw [hW]
  clear hW
  refine (awake_any _).mono ?_
  rintro e w1 ⟨rfl, hb1⟩
  replace hB := hB.after hb1
  have hb := below_then hbW hbW.size hb1
  clear hbW hb1
  have c0 := hB.cell 0
  have c1 := hB.cell 1
  have c2 := hB.cell 2
  have c3 := hB.cell 3
  have c4 := hB.cell 4
  go_wp2_with fail
  refine (few11_any c _ l vl ls _ _ (HC.out.after hb) (HS.out.after hb) (HL.out.after hb)).mono ?_
  rintro e w2 ⟨rfl, hb2⟩
  replace hB := hB.after hb2
  replace hb := below_then hb hb.size hb2
  clear hb2 c0 c1 c2 c3 c4
  cases hf : few11 c l ls with
  | false =>
    go_wp2
    go_ret
    exact ⟨rfl, hb⟩
  | true =>
    obtain ⟨hn1, hn2, hn3⟩ := few11_iff hf
    clear hf
    have hz := hB.lt
    go_wp2_with fail
    go_loopw [9, 10] (fun v9 i wr => ∃ k : Nat, k ≤ ls.length ∧ i = .int .i64 k ∧ Below w.heap.size w wr ∧ Blok wr w.heap.size 25 #[s, .int .u64 c.seed.1, .int .i64 c.epoch.1, .int .i64 c.num.1, .int .i64 c.den.1] ∧ Own 1 encI 3 (w.heap.size + 1) wr v9 ((ls.take k).map (·.frm))) (fun _ i _ => ls.length - (intOf i).toNat)
    case atStart => exact ⟨0, Nat.zero_le _, rfl, hb, hB, Own.nil _ _⟩
    case round =>
      clear hb hB hz
      obtain ⟨k, hk, rfl, hb, hB, hO⟩ := hrel
      have hz := hB.lt
      by_cases hlt : k < ls.length
      · obtain ⟨x, hx⟩ : ∃ x, ls[k]? = some x := ⟨_, List.getElem?_eq_getElem hlt⟩
        obtain ⟨b, off, rfl, hbl, hc⟩ := hA (by intro h; subst h; simp at hlt)
        have e0 : wr.cell? ⟨b, off + k * 7, none⟩ = some (.int .i64 x.frm.1) := (hb.cell (p := ⟨b, _, none⟩) hbl).trans (hc k x hx 0 _ rfl)
        have HT := hide (take_snoc hx)
        have HN : Hid (((ls.take k).map (·.frm)).length = k) := by unfold Hid; rw [List.length_map, List.length_take]; omega
        clear hx hc hA
        go_wp2_with (at_builtin; refine wpList_app encI_len (by omega) encI_one (W := _) x.frm rfl (.tmp 29) (.tmp 35) rfl Try.underlying22 infoI rfl rfl rfl rfl hO (by rw [HN.out]; omega) (by omega) (by omega) ?_; intro v9' w3 hO3 hg3)
        go_roundw
        case rel => exact ⟨k + 1, by omega, by go_num, below_row hb (by omega) hb.size hO hg3, hB.grown hg3 (hO.ne (by omega)), by rw [HT.out, List.map_append]; exact hO3⟩
        case measure => simp [intOf]; omega
      · have hkl : k = ls.length := by omega
        subst hkl
        rw [List.take_length] at hO
        have hw := sumC_bd c (fun i => memI (ls.map (·.frm)) (i.val : Int))
        have ht := sumC_bd c (fun _ => true)
        have hw2 : 0 ≤ weightC c (ls.map (·.frm)) ∧ weightC c (ls.map (·.frm)) ≤ 13194139533312 := hw
        have ht2 : 0 ≤ totalC c ∧ totalC c ≤ 13194139533312 := ht
        have HSl := hide (hO.sl encI_len)
        clear hlt hk hA hw ht hO
        obtain ⟨wo, hwo⟩ : ∃ wo, wo = wr := ⟨_, rfl⟩
        subst hwo
        have r0 := hB.ext 0 rfl
        have r1 := hB.ext 1 rfl
        have r2 := hB.ext 2 rfl
        have r3 := hB.ext 3 rfl
        have r4 := hB.ext 4 rfl
        have HW : Hid (∀ y, strongB c l ls y = false ∨ 2 * totalC c ≤ 3 * weightC c (ls.map (·.frm))) := fun y => by
          rcases Int.lt_or_le (3 * weightC c (ls.map (·.frm))) (2 * totalC c) with h | h
          · exact .inl (weak_none h y)
          · exact .inr h
        generalize hwe : weightC c (ls.map (·.frm)) = we at *
        generalize hte : totalC c = te at *
        have HWE := hide hwe
        have HTE := hide hte
        clear hwe hte
        have m1 : IntKind.i64.wrap (3 * we) = 3 * we := IntWalk.i64_in _ (by omega)
        have m2 : IntKind.i64.wrap (2 * te) = 2 * te := IntWalk.i64_in _ (by omega)
        go_wp2
        go_region_held3 (fun w' => Below wo.heap.size wo w') (first | exact below_drew wo | exact below_ext (below_drew wo) (by assumption) | exact below_ext (by assumption) (by assumption))
          (first | (go_at_call 34; refine (weight_any c _ (ls.map (·.frm)) _ _ ((HC.out.after hb).after (by first | assumption | exact below_drew wo)) (HSl.out.after (by first | assumption | exact below_drew wo))).mono ?_; rw [HWE.out]; rintro e w4 ⟨rfl, hb4⟩) | (go_at_call 35; refine (total_any c _ _ ((HC.out.after hb).after (by first | assumption | exact below_drew wo))).mono ?_; rw [HTE.out]; rintro e w5 ⟨rfl, hb5⟩))
        have hb6 := below_ext (below_ext (below_drew wo) hb4) hb5
        have hb' := below_then hb hb.size hb6
        have hB' := hB.after hb6
        clear hb4 hb5 hb6 r0 r1 r2 r3 r4 hB hb m1 m2
        by_cases hwt : 2 * te ≤ 3 * we
        · clear HW
          go_wp2
          go_ret
          exact ⟨rfl, hb'⟩
        · have HNS : Hid (∀ y, strongB c l ls y = false) := fun y => (HW.out y).resolve_right hwt
          have hlt3 : 3 * we < 2 * te := by omega
          clear HW hwt
          have r0 := hB'.cell 0
          have r1 := hB'.cell 1
          have r2 := hB'.cell 2
          have r3 := hB'.cell 3
          have r4 := hB'.cell 4
          go_wp2_with fail
          refine (just_any2 c _ l vl ls _ _ (HC.out.after hb') (HS.out.after hb') (by omega) (HL.out.after hb') (by omega)).mono ?_
          rintro e w6 ⟨⟨u, js, rfl, hu, hj⟩, hb6⟩
          have HJ := hide hj
          have hjl := weak_just HNS.out hj
          have hb'' := below_then hb' hb'.size hb6
          have hB'' := hB'.after hb6
          obtain ⟨A5, cap5, rfl, _, _, _⟩ := hu
          clear hb6 r0 r1 r2 r3 r4 hB' hb' hj
          have r0 := hB''.cell 0
          have r1 := hB''.cell 1
          have r2 := hB''.cell 2
          have r3 := hB''.cell 3
          have r4 := hB''.cell 4
          go_wp2_with fail
          refine (final_any c _ l vl ls _ _ (HC.out.after hb'') (HS.out.after hb'') (by omega) (HL.out.after hb'') (by omega)).mono ?_
          rintro e w7 ⟨⟨u2, fs, rfl, hu2, hf⟩, hb7⟩
          have hfl := weak_final HNS.out HJ.out hf
          obtain ⟨A6, cap6, rfl, _, _, _⟩ := hu2
          have hb3 := below_then hb'' hb''.size hb7
          clear hb7 r0 r1 r2 r3 r4 hB'' hb'' hf
          go_wp2
          go_ret
          exact ⟨by show Ending.returned (.bool (decide ((fs.length : Int) ≤ 1))) = _; rw [decide_eq_true (by omega)], hb3⟩
end Go.Proofs.Ytbfjoakaofgapaa
