/- The reference of layer 6: names, and where they are. -/
import Derived.Test.YtbfjoakaofgapaaRef2
import Derived.Test.YtbfjoakaofgapaaRefP
import Derived.Test.YtbfjoakaofgapaaPlaces
import Derived.Test.YtbfjoakaofgapaaRange
namespace Go.Proofs.Ytbfjoakaofgapaa
set_option linter.unusedSimpArgs false
set_option linter.unusedVariables false
set_option linter.unusedSectionVars false
open Go Go.RowKit
set_option maxRecDepth 100000

set_option maxHeartbeats 1000000 in
theorem rat_any (l : List ID) (v : Value) (x : ID) (w : World) (hS : Sl 2 encID w v l) :
    Calls Try.prog 108 #[v, vID x] w fun e w' => e = .returned (.int .i64 (atZ l x)) ∧ Below w.heap.size w w' := by
  have hlen := hS.len_le
  obtain ⟨A, cap, rfl, hcap, hmax, hA⟩ := hS
  clear hmax
  have hg := guardID
  go_enter Try.func108, Try.ntmps108
  go_wp2
  obtain ⟨W, hW⟩ : ∃ W, w.alloc (.cells #[.int .u64 x.a.1, .int .u64 x.b.1] 28) = W := ⟨_, rfl⟩
  have hbW : Below w.heap.size w W := by rw [← hW]; exact below_alloc w _
  have hB : Blok W w.heap.size 28 #[.int .u64 x.a.1, .int .u64 x.b.1] := by rw [← hW]; exact Blok.new _ _ _
  rw [hW]
  clear hW
  have c0 := hB.cell 0
  have c1 := hB.cell 1
  go_loopw [5] (fun i wr => ∃ (k m : Nat), k ≤ l.length ∧ i = .int .i64 k ∧ wr = W.drewN m ∧ atZ l x = atG (l.drop k) x k) (fun i _ => l.length - (intOf i).toNat)
  case atStart => exact ⟨0, 0, Nat.zero_le _, rfl, rfl, rfl⟩
  case round =>
    obtain ⟨k, m, hk, rfl, rfl, hno⟩ := hrel
    have HN := hide hno
    clear hno
    by_cases hlt : k < l.length
    · obtain ⟨y, hy⟩ : ∃ y, l[k]? = some y := ⟨_, List.getElem?_eq_getElem hlt⟩
      obtain ⟨b, off, rfl, hbl, hc⟩ := hA (by intro h; subst h; simp at hlt)
      have e0 : W.cell? ⟨b, off + k * 2, none⟩ = some (.int .u64 y.a.1) := (hbW.cell (p := ⟨b, _, none⟩) hbl).trans (hc k y hy 0 _ rfl)
      have e1 : W.cell? ⟨b, off + k * 2 + 1, none⟩ = some (.int .u64 y.b.1) := (hbW.cell (p := ⟨b, _, none⟩) hbl).trans (hc k y hy 1 _ rfl)
      have HT := hide (atG_drop hy x)
      clear hy hc hA
      by_cases he : y = x
      · have HE : Hid (atZ l x = (k : Int)) := by unfold Hid; rw [HN.out, HT.out, if_pos he]
        have hq : ∀ W', (Op.equalIn 10000 28 (.agg #[.int .u64 y.a.1, .int .u64 y.b.1]) (.agg #[.int .u64 x.a.1, .int .u64 x.b.1])).run Try.prog W' = .ok true W' := fun W' => by rw [run_equalIn_ID, decide_eq_true he]
        clear he
        go_wp2
        go_quiet (fail)
        go_wp2
        go_ret
        exact ⟨by rw [HE.out]; rfl, below_drewN (below_drewN hbW _) _⟩
      · have HE : Hid (atZ l x = atG (l.drop (k + 1)) x ((k + 1 : Nat) : Int)) := by unfold Hid; rw [HN.out, HT.out, if_neg he]; rfl
        have hq : ∀ W', (Op.equalIn 10000 28 (.agg #[.int .u64 y.a.1, .int .u64 y.b.1]) (.agg #[.int .u64 x.a.1, .int .u64 x.b.1])).run Try.prog W' = .ok false W' := fun W' => by rw [run_equalIn_ID, decide_eq_false he]
        clear he
        go_wp2
        go_quiet (fail)
        go_wp2
        go_roundw
        case rel => exact ⟨k + 1, _, by omega, by go_num, rfl, HE.out⟩
        case measure => simp [intOf]; omega
    · have hkl : k = l.length := by omega
      have HE : Hid (atZ l x = -1) := by unfold Hid; rw [HN.out, List.drop_of_length_le (by omega)]; rfl
      clear hkl HN hA
      have hge : l.length ≤ k := by omega
      go_wp2
      go_ret
      exact ⟨by rw [HE.out]; rfl, below_drewN hbW _⟩

set_option maxHeartbeats 2000000 in
theorem rnames_own (l : List Blk) (v : Value) (w : World) (hS : Sl 5 encBlk w v l) (hl : l.length ≤ 900000) :
    Calls Try.prog 107 #[v] w fun e w' => ∃ u, e = .returned u ∧ Own 2 encID 28 w.heap.size w' u (l.map nameB) ∧ Below w.heap.size w w' := by
  have hlen := hS.len_le
  obtain ⟨A, cap, rfl, hcap, hmax, hA⟩ := hS
  clear hmax
  go_enter Try.func107, Try.ntmps107
  go_wp2
  go_loopw [3, 4] (fun v3 i wr => ∃ k : Nat, k ≤ l.length ∧ i = .int .i64 k ∧ Below w.heap.size w wr ∧ Own 2 encID 28 w.heap.size wr v3 ((l.take k).map nameB)) (fun _ i _ => l.length - (intOf i).toNat)
  case atStart => exact ⟨0, Nat.zero_le _, rfl, Below.refl _ _, Own.nil _ _⟩
  case round =>
    obtain ⟨k, hk, rfl, hb, hO⟩ := hrel
    by_cases hlt : k < l.length
    · obtain ⟨x, hx⟩ : ∃ x, l[k]? = some x := ⟨_, List.getElem?_eq_getElem hlt⟩
      obtain ⟨b, off, rfl, hbl, hc⟩ := hA (by intro h; subst h; simp at hlt)
      have rd : ∀ i u, (encBlk x)[i]? = some u → wr.cell? ⟨b, off + k * 5 + i, none⟩ = some u := fun i u hu => (hb.cell (p := ⟨b, _, none⟩) hbl).trans (hc k x hx i u hu)
      have e0 : wr.cell? ⟨b, off + k * 5, none⟩ = some (.int .i64 x.slot.1) := rd 0 _ rfl
      have e1 := rd 1 _ rfl
      have e2 := rd 2 _ rfl
      have e3 := rd 3 _ rfl
      have e4 := rd 4 _ rfl
      have HT := hide (take_snoc hx)
      have HL : Hid (((l.take k).map nameB).length = k) := by unfold Hid; rw [List.length_map, List.length_take]; omega
      clear hx hc hA rd
      go_wp2_with fail
      refine (rname_any x _).mono ?_
      rintro e w1 ⟨rfl, hb1⟩
      have hO1 := hO.after hb1
      have hb' := below_then hb hb.size hb1
      clear hb1 hO hb e0 e1 e2 e3 e4
      go_wp2_with (at_builtin; refine wpList_app encID_len (by omega) encID_one (W := _) (nameB x) rfl (.tmp 11) (.tmp 17) rfl Try.underlying36 infoID rfl rfl rfl rfl hO1 (by rw [HL.out]; omega) (by omega) hb'.size ?_; intro v3' w2 hO2 hg2)
      go_roundw
      case rel => exact ⟨k + 1, by omega, by go_num, below_row hb' (Nat.le_refl _) hb'.size hO1 hg2, by rw [HT.out, List.map_append]; exact hO2⟩
      case measure => simp [intOf]; omega
    · have hkl : k = l.length := by omega
      subst hkl
      rw [List.take_length] at hO
      clear hlt hk hA
      have HO := hide hO
      clear hO
      go_wp2
      go_ret
      exact ⟨_, rfl, HO.out, hb⟩
theorem rnames_any (l : List Blk) (v : Value) (w : World) (hS : Sl 5 encBlk w v l) (hl : l.length ≤ 900000) :
    Calls Try.prog 107 #[v] w fun e w' => ∃ u, e = .returned u ∧ Sl 2 encID w' u (l.map nameB) ∧ Below w.heap.size w w' :=
  (rnames_own l v w hS hl).mono fun e w' ⟨u, h1, h2, h3⟩ => ⟨u, h1, h2.sl encID_len, h3⟩
end Go.Proofs.Ytbfjoakaofgapaa
