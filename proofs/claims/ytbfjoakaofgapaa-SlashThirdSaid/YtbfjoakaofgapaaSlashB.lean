/- slash.Guilty: who has two such votes. -/
import Derived.Test.YtbfjoakaofgapaaSlashA
import Derived.Test.YtbfjoakaofgapaaSortI
namespace Go.Proofs.Ytbfjoakaofgapaa
set_option linter.unusedSimpArgs false
set_option linter.unusedVariables false
set_option linter.unusedSectionVars false
open Go Go.RowKit
set_option maxRecDepth 100000

theorem guilty1_any (x a : Lnk) (g : Nat) (w : World) (hA : Blok w g 44 #[.int .i64 a.frm.1, .int .i64 a.src.ep.1, .int .u64 a.src.root.a.1, .int .u64 a.src.root.b.1, .int .i64 a.tgt.ep.1, .int .u64 a.tgt.root.a.1, .int .u64 a.tgt.root.b.1]) :
    Calls Try.prog 91 #[vLnk x, .pointer (some ⟨g, 0, none⟩)] w fun e w' => e = .returned (.bool (pairB a x)) ∧ Below w.heap.size w w' := by
  have c0 := hA.cell 0
  have c1 := hA.cell 1
  have c2 := hA.cell 2
  have c3 := hA.cell 3
  have c4 := hA.cell 4
  have c5 := hA.cell 5
  have c6 := hA.cell 6
  have hlt := hA.lt
  go_enter Try.func91, Try.ntmps91
  go_wp2_with fail
  refine (pair_any a x _).mono ?_
  rintro e w1 ⟨rfl, hb⟩
  go_wp2
  go_ret
  exact ⟨rfl, below_then (below_alloc w _) (by simp) hb⟩
set_option maxHeartbeats 1000000 in
theorem idxL_any (l : List Lnk) (v : Value) (a : Lnk) (g : Nat) (w : World) (hS : Sl 7 encLnk w v l) (hA : Blok w g 44 #[.int .i64 a.frm.1, .int .i64 a.src.ep.1, .int .u64 a.src.root.a.1, .int .u64 a.src.root.b.1, .int .i64 a.tgt.ep.1, .int .u64 a.tgt.root.a.1, .int .u64 a.tgt.root.b.1]) :
    Calls Try.prog 132 #[v, .func (.func 91) #[] #[.pointer (some ⟨g, 0, none⟩)]] w fun e w' => ∃ r : Int, e = .returned (.int .i64 r) ∧ (0 ≤ r ↔ l.any (pairB a) = true) ∧ Below w.heap.size w w' := by
  have hlen := hS.len_le
  obtain ⟨A, cap, rfl, hcap, hmax, hA'⟩ := hS
  clear hmax
  have HA := hide hA
  clear hA
  go_enter Try.func132, Try.ntmps132
  go_wp2
  go_loopw [8] (fun i wr => ∃ k : Nat, k ≤ l.length ∧ i = .int .i64 k ∧ Below w.heap.size w wr ∧ (l.take k).any (pairB a) = false) (fun i _ => l.length - (intOf i).toNat)
  case atStart => exact ⟨0, Nat.zero_le _, rfl, Below.refl _ _, rfl⟩
  case round =>
    obtain ⟨k, hk, rfl, hb, hno⟩ := hrel
    have HN := hide hno
    clear hno
    by_cases hlt : k < l.length
    · obtain ⟨x, hx⟩ : ∃ x, l[k]? = some x := ⟨_, List.getElem?_eq_getElem hlt⟩
      obtain ⟨b, off, rfl, hbl, hc⟩ := hA' (by intro h; subst h; simp at hlt)
      have rd : ∀ i u, (encLnk x)[i]? = some u → wr.cell? ⟨b, off + k * 7 + i, none⟩ = some u := fun i u hu => (hb.cell (p := ⟨b, _, none⟩) hbl).trans (hc k x hx i u hu)
      have e0 : wr.cell? ⟨b, off + k * 7, none⟩ = some (.int .i64 x.frm.1) := rd 0 _ rfl
      have e1 := rd 1 _ rfl
      have e2 := rd 2 _ rfl
      have e3 := rd 3 _ rfl
      have e4 := rd 4 _ rfl
      have e5 := rd 5 _ rfl
      have e6 := rd 6 _ rfl
      have HT := hide (take_snoc hx)
      have HM := hide (List.mem_of_getElem? hx)
      clear hx hc hA' rd
      cases hp : pairB a x with
      | true =>
        have HR : Hid (l.any (pairB a) = true) := List.any_eq_true.2 ⟨x, HM.out, hp⟩
        have HP := hide hp
        clear hp
        go_wp2_with fail
        refine (guilty1_any x a g _ (HA.out.below hb HA.out.lt)).mono ?_
        rw [HP.out]
        rintro e w1 ⟨rfl, hb1⟩
        clear e0 e1 e2 e3 e4 e5 e6
        go_wp2
        go_ret
        exact ⟨k, rfl, ⟨fun _ => HR.out, fun _ => by omega⟩, below_then hb hb.size hb1⟩
      | false =>
        have HR : Hid ((l.take (k + 1)).any (pairB a) = false) := by unfold Hid; rw [HT.out, List.any_append, HN.out]; simp [hp]
        have HP := hide hp
        clear hp
        go_wp2_with fail
        refine (guilty1_any x a g _ (HA.out.below hb HA.out.lt)).mono ?_
        rw [HP.out]
        rintro e w1 ⟨rfl, hb1⟩
        clear e0 e1 e2 e3 e4 e5 e6
        go_wp2
        go_roundw
        case rel => exact ⟨k + 1, by omega, by go_num, below_then hb hb.size hb1, HR.out⟩
        case measure => simp [intOf]; omega
    · have hkl : k = l.length := by omega
      subst hkl
      have hno := HN.out
      rw [List.take_length] at hno
      have HN' := hide hno
      clear hno HN hlt hk hA'
      go_wp2
      go_ret
      exact ⟨-1, rfl, ⟨fun h => by omega, fun h => by rw [HN'.out] at h; cases h⟩, hb⟩
theorem ctnL_any (l : List Lnk) (v : Value) (a : Lnk) (g : Nat) (w : World) (hS : Sl 7 encLnk w v l) (hA : Blok w g 44 #[.int .i64 a.frm.1, .int .i64 a.src.ep.1, .int .u64 a.src.root.a.1, .int .u64 a.src.root.b.1, .int .i64 a.tgt.ep.1, .int .u64 a.tgt.root.a.1, .int .u64 a.tgt.root.b.1]) :
    Calls Try.prog 90 #[v, .func (.func 91) #[] #[.pointer (some ⟨g, 0, none⟩)]] w fun e w' => e = .returned (.bool (l.any (pairB a))) ∧ Below w.heap.size w w' := by
  go_enter Try.func90, Try.ntmps90
  go_wp2_with fail
  refine (idxL_any l v a g _ hS hA).mono ?_
  rintro e w1 ⟨r, rfl, hr, hb⟩
  cases h : l.any (pairB a) with
  | true =>
    have hge : 0 ≤ r := hr.2 h
    have hd : decide (r ≥ 0) = true := by simp; omega
    have H := hide h
    clear h hr
    go_wp2
    go_ret
    exact ⟨by first | rfl | (rw [H.out]; rfl), hb⟩
  | false =>
    have hlt : r < 0 := by
      refine Int.not_le.1 fun hge => ?_
      rw [hr.1 hge] at h
      cases h
    have hd : decide (r ≥ 0) = false := by simp; omega
    have H := hide h
    clear h hr
    go_wp2
    go_ret
    exact ⟨by first | rfl | (rw [H.out]; rfl), hb⟩
theorem guilt_len (v : List Lnk) : ∀ k, (guiltUpto v k).length ≤ k
  | 0 => by simp [guiltUpto]
  | k + 1 => by
    have := guilt_len v k
    unfold guiltUpto
    rw [List.length_append]
    cases v[k]? with
    | none => simp; omega
    | some x => simp only; split <;> simp <;> omega
theorem guilt_yes {v : List Lnk} {k : Nat} {x : Lnk} (h : v[k]? = some x) (hp : (v.take k).any (pairB x) = true) : guiltUpto v (k + 1) = guiltUpto v k ++ [x.frm] := by
  simp [guiltUpto, h, hp]
theorem guilt_no {v : List Lnk} {k : Nat} {x : Lnk} (h : v[k]? = some x) (hp : (v.take k).any (pairB x) = false) : guiltUpto v (k + 1) = guiltUpto v k := by
  simp [guiltUpto, h, hp]
def GuiltyRes (ls : List Lnk) (e : Ending) (w' : World) : Prop := ∃ u g, e = .returned u ∧ Sl 1 encI w' u g ∧ g.length ≤ (guiltUpto ls ls.length).length ∧ GuiltIs ls g
set_option maxHeartbeats 4000000 in
theorem guilty_any (ls : List Lnk) (v : Value) (w : World) (hS : Sl 7 encLnk w v ls) (hl : ls.length ≤ 900000) :
    Calls Try.prog 49 #[v] w fun e w' => GuiltyRes ls e w' ∧ Below w.heap.size w w' := by
  have HS := hide hS
  have hlen := hS.len_le
  obtain ⟨A, cap, rfl, hcap, hmax, hA⟩ := hS
  clear hmax
  go_enter Try.func49, Try.ntmps49
  go_wp2
  go_loopw [3, 8] (fun v3 i wr => ∃ k : Nat, k ≤ ls.length ∧ i = .int .i64 k ∧ Below w.heap.size w wr ∧ Own 1 encI 3 w.heap.size wr v3 (guiltUpto ls k)) (fun _ i _ => ls.length - (intOf i).toNat)
  case atStart => exact ⟨0, Nat.zero_le _, rfl, Below.refl _ _, Own.nil _ _⟩
  case round =>
    obtain ⟨k, hk, rfl, hb, hO⟩ := hrel
    by_cases hlt : k < ls.length
    · obtain ⟨x, hx⟩ : ∃ x, ls[k]? = some x := ⟨_, List.getElem?_eq_getElem hlt⟩
      obtain ⟨b, off, rfl, hbl, hc⟩ := hA (by intro h; subst h; simp at hlt)
      have rd : ∀ i u, (encLnk x)[i]? = some u → wr.cell? ⟨b, off + k * 7 + i, none⟩ = some u := fun i u hu => (hb.cell (p := ⟨b, _, none⟩) hbl).trans (hc k x hx i u hu)
      have e0 : wr.cell? ⟨b, off + k * 7, none⟩ = some (.int .i64 x.frm.1) := rd 0 _ rfl
      have e1 := rd 1 _ rfl
      have e2 := rd 2 _ rfl
      have e3 := rd 3 _ rfl
      have e4 := rd 4 _ rfl
      have e5 := rd 5 _ rfl
      have e6 := rd 6 _ rfl
      have HX := hide hx
      have HGL := hide (guilt_len ls k)
      clear hx hc hA rd
      have hsz := hb.size
      have HSr : Hid (Sl 7 encLnk (wr.alloc (.cells #[.int .i64 x.frm.1, .int .i64 x.src.ep.1, .int .u64 x.src.root.a.1, .int .u64 x.src.root.b.1, .int .i64 x.tgt.ep.1, .int .u64 x.tgt.root.a.1, .int .u64 x.tgt.root.b.1] 44)) (.slice (some ⟨b, off, none⟩) ls.length cap) ls) := (HS.out.after hb).alloc _
      have hBX : Hid (Blok (wr.alloc (.cells #[.int .i64 x.frm.1, .int .i64 x.src.ep.1, .int .u64 x.src.root.a.1, .int .u64 x.src.root.b.1, .int .i64 x.tgt.ep.1, .int .u64 x.tgt.root.a.1, .int .u64 x.tgt.root.b.1] 44)) wr.heap.size 44 #[.int .i64 x.frm.1, .int .i64 x.src.ep.1, .int .u64 x.src.root.a.1, .int .u64 x.src.root.b.1, .int .i64 x.tgt.ep.1, .int .u64 x.tgt.root.a.1, .int .u64 x.tgt.root.b.1]) := Blok.new _ _ _
      go_wp2_with (first | (refine wpList_slUpto (k := 7) (enc := encLnk) rfl (.tmp 13) (.tmp 14) rfl elemLnk sizeLnk rfl k rfl HSr.out (by omega) ?_; intro v2 hv2) | fail)
      go_wp2_with fail
      refine (ctnL_any (ls.take k) v2 x wr.heap.size _ hv2 hBX.out).mono ?_
      rintro e w1 ⟨rfl, hb1⟩
      have hB1 := hBX.out.after hb1
      have hO1 := (hO.alloc (.cells #[.int .i64 x.frm.1, .int .i64 x.src.ep.1, .int .u64 x.src.root.a.1, .int .u64 x.src.root.b.1, .int .i64 x.tgt.ep.1, .int .u64 x.tgt.root.a.1, .int .u64 x.tgt.root.b.1] 44)).after hb1
      have hb2 := below_then (hb.alloc hb.size _) (by simp; omega) hb1
      clear hb1 hO hb hBX HSr hv2 e0 e1 e2 e3 e4 e5 e6
      have c0 := hB1.cell 0
      cases hp : (ls.take k).any (pairB x) with
      | true =>
        have HE := hide (guilt_yes HX.out hp)
        clear hp
        go_wp2_with (at_builtin; refine wpList_app encI_len (by omega) encI_one (W := _) x.frm rfl (.tmp 18) (.tmp 21) rfl Try.underlying22 infoI rfl rfl rfl rfl hO1 (by have := HGL.out; omega) (by omega) hb2.size ?_; intro v3' w3 hO3 hg3)
        go_roundw
        case rel => exact ⟨k + 1, by omega, by go_num, below_row hb2 (Nat.le_refl _) hb2.size hO1 hg3, by rw [HE.out]; exact hO3⟩
        case measure => simp [intOf]; omega
      | false =>
        have HE := hide (guilt_no HX.out hp)
        clear hp
        go_wp2
        go_roundw
        case rel => exact ⟨k + 1, by omega, by go_num, hb2, by rw [HE.out]; exact hO1⟩
        case measure => simp [intOf]; omega
    · have hkl : k = ls.length := by omega
      subst hkl
      have HGL := guilt_len ls ls.length
      have HR := hide (RowI.of_own hO)
      clear hlt hk hA hO
      go_wp2_with fail
      refine (sortI_any _ _ _ _ HR.out (by omega)).mono ?_
      rintro e w1 ⟨rfl, hR1, hb1⟩
      have hsl : (sortI (guiltUpto ls ls.length)).length = (guiltUpto ls ls.length).length := List.length_mergeSort _
      have HSL := hide hsl
      clear hsl
      go_wp2_with fail
      refine (compI_any _ _ _ _ hR1 (by rw [HSL.out]; omega)).mono ?_
      rintro e w2 ⟨⟨u, g, rfl, hu, hgl, hg⟩, hb2⟩
      have HFin : Hid (GuiltyRes ls (.returned u) w2) := ⟨u, g, rfl, hu, by rw [HSL.out] at hgl; omega, (guilt_is ls).congr fun a => (hg a).trans (sortI_perm _).mem_iff⟩
      clear hu hgl hg hR1
      go_wp2
      go_ret
      exact ⟨HFin.out, (hb.trans hb1).trans hb2⟩
end Go.Proofs.Ytbfjoakaofgapaa
