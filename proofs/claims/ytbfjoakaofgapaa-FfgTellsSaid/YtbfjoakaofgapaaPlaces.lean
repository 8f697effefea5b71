/- tree.places. -/
import Derived.Test.YtbfjoakaofgapaaTree
namespace Go.Proofs.Ytbfjoakaofgapaa
set_option linter.unusedSimpArgs false
set_option linter.unusedVariables false
set_option linter.unusedSectionVars false
open Go Go.RowKit
set_option maxRecDepth 100000

theorem zeroInt (w : World) : (zeroValue 3).run Try.prog w = .ok (.int .i64 0) w := by kernel_rfl
set_option maxHeartbeats 2000000 in
theorem places_any (l : List Blk) (v : Value) (w : World) (hS : Sl 5 encBlk w v l) :
    Calls Try.prog 61 #[v] w fun e w' => PlRes (pl l) e w' ∧ Below w.heap.size w w' := by
  have hS0 := hS
  obtain ⟨A, cap, rfl, hcap, hmax, hA⟩ := hS
  have hlen : l.length ≤ 9223372036854775807 := hS0.len_le
  clear hmax
  have hmm := @run_makeMap Try.prog
  go_enter Try.func61, Try.ntmps61
  go_wp2_with (refine wpList_put (encV := vInt) rfl (.tmp 13) (.tmp 14) (.const (.int .i64 (-1))) 92 (.inr rfl) keyEncID Try.underlying92 rfl (m := []) ?_ ID.zero (-1) rfl rfl ?_; (simpa using MapAt.new (encK := vID) (encV := vInt) (w.alloc (.cells #[.slice A l.length cap] 26))); intro W hmW hgW; have hBW : Blok W w.heap.size 26 #[.slice A l.length cap] := ((Blok.new _ _ _).alloc _).grown hgW (by simp); have cW := hBW.cell 0)
  have hbW : Below w.heap.size w W := ((below_alloc w _).alloc (by simp) _).grown hgW (by simp; omega) (fun j hj => by cases hj; simp)
  clear cW hmm
  go_loopw [19] (fun i wr => ∃ (k : Nat) (m : List (ID × Int)), k ≤ l.length ∧ i = .int .i64 k ∧ plUpto l k = some m ∧ MapAt vID vInt wr (w.heap.size + 1) m ∧ Blok wr w.heap.size 26 #[.slice A l.length cap] ∧ Below w.heap.size w wr) (fun i wr => l.length - (intOf i).toNat)
  case atStart => exact ⟨0, _, Nat.zero_le _, rfl, rfl, hmW, hBW, hbW⟩
  case round =>
    obtain ⟨k, m, hk, rfl, hpl, hm, hB, hb⟩ := hrel
    have Hpl := hide hpl
    clear hpl hmW hBW hgW hbW
    by_cases hlt : k < l.length
    · obtain ⟨x, hx⟩ : ∃ x, l[k]? = some x := ⟨_, List.getElem?_eq_getElem hlt⟩
      have HX := hide hx
      have HSr : Hid (Sl 5 encBlk wr (.slice A l.length cap) l) := hS0.after (by exact hb)
      obtain ⟨b, off, rfl, hbl, hc⟩ := hA (by intro h; subst h; simp at hlt)
      have e0 : wr.cell? ⟨b, off + k * 5, none⟩ = some (.int .i64 x.slot.1) := (hb.cell (p := ⟨b, _, none⟩) hbl).trans (hc k x hx 0 _ rfl)
      have e1 : wr.cell? ⟨b, off + k * 5 + 1, none⟩ = some (.int .i64 x.frm.1) := (hb.cell (p := ⟨b, _, none⟩) hbl).trans (hc k x hx 1 _ rfl)
      have e2 : wr.cell? ⟨b, off + k * 5 + 2, none⟩ = some (.int .u64 x.par.a.1) := (hb.cell (p := ⟨b, _, none⟩) hbl).trans (hc k x hx 2 _ rfl)
      have e3 : wr.cell? ⟨b, off + k * 5 + 3, none⟩ = some (.int .u64 x.par.b.1) := (hb.cell (p := ⟨b, _, none⟩) hbl).trans (hc k x hx 3 _ rfl)
      have e4 : wr.cell? ⟨b, off + k * 5 + 4, none⟩ = some (.int .u64 x.salt.1) := (hb.cell (p := ⟨b, _, none⟩) hbl).trans (hc k x hx 4 _ rfl)
      clear hx hc hA hS0
      cases hp : look m x.par with
      | none =>
        have HP := hide hp
        clear hp
        go_wp2_with (at_lookup; refine wpList_look (encV := vInt) (m := m) rfl (.tmp 25) (.tmp 27) 92 true rfl keyEncID Try.underlying92 zeroInt rfl x.par rfl ?_ ?_; exact hm.alloc _; rw [HP.out])
        go_quiet (fail)
        go_wp2
        go_ret2
        refine ⟨?_, below_drewN (hb.alloc hb.size _) _⟩
        have hn : pl l = none := pl_none Hpl.out HX.out (by unfold plStep; rw [HP.out])
        rw [hn]
        exact rfl
      | some p =>
        have hrange := plUpto_range Hpl.out hp
        have hp' : p = -1 ∨ (0 ≤ p ∧ p < l.length) := hrange.imp id fun h => ⟨h.1, by omega⟩
        clear hrange
        have HP := hide hp
        have HP' := hide hp'
        clear hp hp'
        by_cases hsl : x.slot.1 ≤ slotAt l p
        · go_wp2_with (at_lookup; refine wpList_look (encV := vInt) (m := m) rfl (.tmp 25) (.tmp 27) 92 true rfl keyEncID Try.underlying92 zeroInt rfl x.par rfl ?_ ?_; exact hm.alloc _; rw [HP.out])
          go_quiet ((go_at_call 104; exact Calls.quiet_of_same ((slotf_any l _ w.heap.size p _ ((HSr.out.alloc _).drewN _) ((hB.alloc _).drewN _) HP'.out).mono fun _ _ h => ⟨h.1, h.2.symm⟩)))
          go_wp2
          go_ret2
          refine ⟨?_, below_drewN (hb.alloc hb.size _) _⟩
          have hn : pl l = none := pl_none Hpl.out HX.out (by unfold plStep; rw [HP.out]; simp [hsl])
          rw [hn]
          exact rfl
        · go_wp2_with (at_lookup; refine wpList_look (encV := vInt) (m := m) rfl (.tmp 25) (.tmp 27) 92 true rfl keyEncID Try.underlying92 zeroInt rfl x.par rfl ?_ ?_; exact hm.alloc _; rw [HP.out])
          go_quiet ((go_at_call 104; exact Calls.quiet_of_same ((slotf_any l _ w.heap.size p _ ((HSr.out.alloc _).drewN _) ((hB.alloc _).drewN _) HP'.out).mono fun _ _ h => ⟨h.1, h.2.symm⟩)))
          go_wp2_with fail
          refine (name_any x _).mono ?_
          rintro e w1 ⟨rfl, hb1⟩
          have hm1 : MapAt vID vInt w1 (w.heap.size + 1) m := ((hm.alloc _).drewN _).after hb1
          have hB1 : Blok w1 w.heap.size 26 #[.slice (some ⟨b, off, none⟩) l.length cap] := ((hB.alloc _).drewN _).after hb1
          have hbw1 : Below w.heap.size w w1 := below_then (below_drewN (hb.alloc hb.size _) _) (by have := hb.size; simp; omega) hb1
          clear hb1 hm hB e0 e1 e2 e3 e4 HSr HP'
          cases hq : look m (nameB x) with
          | some q =>
            have HQ := hide hq
            clear hq
            go_wp2_with (at_lookup; refine wpList_look (encV := vInt) (m := m) rfl (.tmp 44) (.tmp 45) 92 true rfl keyEncID Try.underlying92 zeroInt rfl (nameB x) rfl ?_ ?_; exact hm1.alloc _; rw [HQ.out])
            go_ret2
            refine ⟨?_, hbw1.alloc hbw1.size _⟩
            have hn : pl l = none := pl_none Hpl.out HX.out (by unfold plStep; rw [HP.out]; simp [hsl, HQ.out])
            rw [hn]
            exact rfl
          | none =>
            have HQ := hide hq
            clear hq
            go_wp2_with (first | (at_lookup; refine wpList_look (encV := vInt) (m := m) rfl (.tmp 44) (.tmp 45) 92 true rfl keyEncID Try.underlying92 zeroInt rfl (nameB x) rfl ?_ ?_; exact hm1.alloc _; rw [HQ.out]) | (at_mapUpdate; refine wpList_put (encV := vInt) rfl (.tmp 50) (.tmp 51) (.tmp 52) 92 (.inl rfl) keyEncID Try.underlying92 rfl (m := m) ?_ (nameB x) (k : Int) rfl rfl ?_; exact hm1.alloc _; intro w2 hm2 hg2))
            go_roundw
            case rel =>
              refine ⟨k + 1, _, by omega, by go_num, plUpto_succ Hpl.out HX.out (by unfold plStep; rw [HP.out]; simp [hsl, HQ.out]), hm2, ?_, ?_⟩
              · exact (hB1.alloc _).grown hg2 (by simp)
              · exact (hbw1.alloc hbw1.size _).grown hg2 (by have := hbw1.size; simp; omega) (fun j hj => by cases hj; simp)
            case measure => simp [intOf]; omega
    · have hkl : k = l.length := by omega
      subst hkl
      clear hlt hk hA hS0
      go_wp2
      go_ret2
      refine ⟨?_, hb⟩
      have hn : pl l = some m := Hpl.out
      rw [hn]
      exact ⟨_, rfl, hm⟩
end Go.Proofs.Ytbfjoakaofgapaa
