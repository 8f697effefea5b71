/- tree.Chain. -/
import Derived.Test.YtbfjoakaofgapaaPlaces
namespace Go.Proofs.Ytbfjoakaofgapaa
set_option linter.unusedSimpArgs false
set_option linter.unusedVariables false
set_option linter.unusedSectionVars false
open Go Go.RowKit
set_option maxRecDepth 100000

theorem places_none {l : List Blk} {v : Value} {w : World} (hS : Sl 5 encBlk w v l) (h : pl l = none) :
    Calls Try.prog 61 #[v] w fun e w' => e = .returned (.tuple #[.map none, .bool false]) ∧ Below w.heap.size w w' :=
  (places_any l v w hS).mono fun e w' ⟨h1, h2⟩ => by rw [h] at h1; exact ⟨h1, h2⟩
theorem places_some {l : List Blk} {v : Value} {w : World} {m : List (ID × Int)} (hS : Sl 5 encBlk w v l) (h : pl l = some m) :
    Calls Try.prog 61 #[v] w fun e w' => ∃ mb, e = .returned (.tuple #[.map (some mb), .bool true]) ∧ MapAt vID vInt w' mb m ∧ Below w.heap.size w w' :=
  (places_any l v w hS).mono fun e w' ⟨h1, h2⟩ => by rw [h] at h1; obtain ⟨mb, h3, h4⟩ := h1; exact ⟨mb, h3, h4, h2⟩
theorem treeMay_any (l : List Blk) (v : Value) (w : World) (hS : Sl 5 encBlk w v l) :
    Calls Try.prog 45 #[v] w fun e w' => e = .returned (.bool (pl l).isSome) ∧ Below w.heap.size w w' := by
  cases h : pl l with
  | none =>
    have c := fun W (hW : Sl 5 encBlk W v l) => places_none hW h
    go_enter Try.func45, Try.ntmps45
    go_wp2_with fail
    refine (places_none hS h).mono ?_
    rintro e w1 ⟨rfl, hb⟩
    go_wp2
    go_ret
    exact ⟨rfl, hb⟩
  | some m =>
    go_enter Try.func45, Try.ntmps45
    go_wp2_with fail
    refine (places_some hS h).mono ?_
    rintro e w1 ⟨mb, rfl, _, hb⟩
    go_wp2
    go_ret
    exact ⟨rfl, hb⟩

def lenOfV : Value → Nat | .slice _ n _ => n | _ => 0
/-- Where a chain's walk stands: j blocks have been put down, the next one is cur. -/
def ChainAt (l : List Blk) (m : List (ID × Int)) (v : Value) (id : ID) (w : World) (a : Act) (w' : World) : Prop :=
  ∃ (mb j : Nat) (cur : ID) (v9 u6 u7 u8 u10 u11 u12 u13 u14 u15 u16 u17 u18 u19 u20 u21 u22 u23 u24 u25 u26 u27 u28 u29 u30 u31 u32 u33 u34 u35 u36 u37 u38 : Value), a = { tmps := #[v, vID id, undef, .pointer (some ⟨w.heap.size, 0, none⟩), .slice none 0 0, .map (some mb), u6, u7, u8, v9, u10, u11, u12, u13, u14, u15, u16, u17, u18, u19, u20, u21, u22, u23, u24, u25, u26, u27, u28, u29, u30, u31, u32, u33, u34, u35, u36, u37, u38], defers := [] } ∧
    (chain l id)[j]? = some cur ∧ Own 2 encID 28 (w.heap.size + 1) w' v9 ((chain l id).take j) ∧ Blok w' w.heap.size 28 #[.int .u64 cur.a.1, .int .u64 cur.b.1] ∧ MapAt vID vInt w' mb m ∧ Below w.heap.size w w'
set_option maxHeartbeats 2000000 in
theorem chain_any (l : List Blk) (v : Value) (id : ID) (w : World) (hS : Sl 5 encBlk w v l) (hl : l.length ≤ 900000) :
    Calls Try.prog 20 #[v, vID id] w fun e w' => ∃ v', e = .returned v' ∧ Sl 2 encID w' v' (chain l id) ∧ Below w.heap.size w w' := by
  cases h : pl l with
  | none =>
    have hc := chain_bad h id
    go_enter Try.func20, Try.ntmps20
    go_wp2
    go_step3
    go_wp2_with fail
    refine (places_none (hS.alloc _) h).mono ?_
    rintro e w1 ⟨rfl, hb⟩
    have hB := (Blok.new w 28 #[.int .u64 id.a.1, .int .u64 id.b.1]).after hb
    have c0 := hB.cell 0
    have c1 := hB.cell 1
    go_wp2_with (at_lookup; refine wpList_look_nil rfl (.tmp 17) (.tmp 18) 92 true rfl keyEncID Try.underlying92 zeroInt rfl id rfl ?_)
    rw [Exit.noGoto_ret]
    go_ret
    exact ⟨_, rfl, by rw [hc]; exact Sl.nil _, below_then (below_alloc w _) (by simp) hb⟩
  | some m =>
    cases hl : look m id with
    | none =>
      have hc := chain_none h hl
      have HL := hide hl
      clear hl
      go_enter Try.func20, Try.ntmps20
      go_wp2
      go_step3
      go_wp2_with fail
      refine (places_some (hS.alloc _) h).mono ?_
      rintro e w1 ⟨mb, rfl, hm, hb⟩
      have hB := (Blok.new w 28 #[.int .u64 id.a.1, .int .u64 id.b.1]).after hb
      have c0 := hB.cell 0
      have c1 := hB.cell 1
      go_wp2_with (at_lookup; refine wpList_look (encV := vInt) (m := m) rfl (.tmp 17) (.tmp 18) 92 true rfl keyEncID Try.underlying92 zeroInt rfl id rfl hm ?_; rw [HL.out])
      rw [Exit.noGoto_ret]
      go_ret
      exact ⟨_, rfl, by rw [hc]; exact Sl.nil _, below_then (below_alloc w _) (by simp) hb⟩
    | some i =>
      have HL := hide hl
      clear hl
      go_enter Try.func20, Try.ntmps20
      go_wp2
      refine wp_scope_jumps 0 (ChainAt l m v id w) (fun a' _ => (chain l id).length - lenOfV (a'.tmps.getD 9 undef)) rfl ?_ ?_
      · go_wp2_with fail
        refine (places_some (hS.alloc _) h).mono ?_
        rintro e w1 ⟨mb, rfl, hm, hb⟩
        have hB := (Blok.new w 28 #[.int .u64 id.a.1, .int .u64 id.b.1]).after hb
        have c0 := hB.cell 0
        have c1 := hB.cell 1
        go_wp2_with (at_lookup; refine wpList_look (encV := vInt) (m := m) rfl (.tmp 17) (.tmp 18) 92 true rfl keyEncID Try.underlying92 zeroInt rfl id rfl hm ?_; rw [HL.out])
        have hcur : (chain l id)[0]? = some id := chain_head h HL.out
        have hO : Own 2 encID 28 (w.heap.size + 1) w1 (.slice none 0 0) ((chain l id).take 0) := Own.nil _ _
        replace hb : Below w.heap.size w w1 := below_then (below_alloc w _) (by simp) hb
        clear c0 c1
        go_step3
        have hj := (List.getElem?_eq_some_iff.1 hcur).1
        have c0 := hB.cell 0
        have c1 := hB.cell 1
        have f0 := hB.frozen 0
        have f1 := hB.frozen 1
        have htk : ((chain l id).take 0).length = 0 := by rw [List.length_take]; exact Nat.min_eq_left (by omega)
        have HT := hide htk
        have HC := hide hcur
        have hlen : (chain l id).length ≤ l.length + 1 := chain_length h id
        rcases chain_step h hcur with ⟨hlk, hend⟩ | ⟨i', b, hlk, hil, hbl, hnext⟩
        · have HK := hide hlk
          have HE := hide hend
          clear hlk hend htk hcur
          go_wp2_with (first | (at_builtin; refine wpList_app encID_len (by omega) encID_one (W := _) id rfl (.tmp 24) (.tmp 26) rfl Try.underlying36 infoID rfl rfl rfl rfl hO (by rw [HT.out]; omega) (by omega) (by have := hb.size; have := hB.lt; omega) ?_; intro v9' w2 hO2 hg2; have hB2 := hB.grown hg2 (hO.ne (by omega)); have hm2 := hm.grown hg2 (hO.ne_map hm); have d0 := hB2.cell 0; have d1 := hB2.cell 1; have d2 := hB2.frozen 0; have d3 := hB2.frozen 1) | (at_lookup; refine wpList_look (encV := vInt) (m := m) rfl (.tmp 28) (.tmp 29) 92 false rfl keyEncID Try.underlying92 zeroInt rfl id rfl hm2 ?_; rw [HK.out]) | go_step3)
          simp only [Exit.jump]
          go_ret
          have htake : (chain l id).take 0 ++ [id] = chain l id := by rw [← take_snoc HC.out, ← HE.out, List.take_length]
          rw [htake] at hO2
          exact ⟨_, rfl, hO2.sl encID_len, below_row hb (by omega) hb.size hO hg2⟩
        · have HK := hide hlk
          have HN := hide hnext
          have HBL := hide hbl
          have HSw := hide hS
          clear hlk hnext hbl htk hcur
          obtain ⟨A, cap, rfl, hcap, hmax, hA⟩ := HSw.out
          obtain ⟨bb, off, rfl, hbb, hc⟩ := hA (by intro e; rw [e] at hil; simp at hil)
          have ek : ∀ (q : Nat) (u : Value), (encBlk b)[q]? = some u → w.cell? ⟨bb, off + i' * 5 + q, none⟩ = some u := hc i' b HBL.out
          have HEK := hide ek
          have hne : ((i' : Int) != -1) = true := by simp
          clear hA hc hmax ek
          go_wp2_with (first | (at_builtin; refine wpList_app encID_len (by omega) encID_one (W := _) id rfl (.tmp 24) (.tmp 26) rfl Try.underlying36 infoID rfl rfl rfl rfl hO (by rw [HT.out]; omega) (by omega) (by have := hb.size; have := hB.lt; omega) ?_; intro v9' w2 hO2 hg2; have hB2 := hB.grown hg2 (hO.ne (by omega)); have hm2 := hm.grown hg2 (hO.ne_map hm); have d0 := hB2.cell 0; have d1 := hB2.cell 1; have d2 := hB2.frozen 0; have d3 := hB2.frozen 1; have hb2 := below_row hb (by omega) hb.size hO hg2; have e2 : w2.cell? ⟨bb, off + i' * 5 + 2, none⟩ = some (.int .u64 b.par.a.1) := (hb2.cell (p := ⟨bb, _, none⟩) hbb).trans (HEK.out 2 _ rfl); have e3 : w2.cell? ⟨bb, off + i' * 5 + 3, none⟩ = some (.int .u64 b.par.b.1) := (hb2.cell (p := ⟨bb, _, none⟩) hbb).trans (HEK.out 3 _ rfl)) | (at_lookup; refine wpList_look (encV := vInt) (m := m) rfl (.tmp 28) (.tmp 29) 92 false rfl keyEncID Try.underlying92 zeroInt rfl id rfl hm2 ?_; rw [HK.out]) | go_step3)
          have htake : (chain l id).take (0 + 1) = (chain l id).take 0 ++ [id] := take_snoc HC.out
          have hO3 := hO2.grown (grown_set2 (g := w.heap.size) (.int .u64 b.par.a.1) (.int .u64 b.par.b.1) 0 1) (.inr fun e => by have := (hO2.lt e).1; omega)
          exact ⟨rfl, mb, 1, b.par, _, _, _, _, _, _, _, _, _, _, _, _, _, _, _, _, _, _, _, _, _, _, _, _, _, _, _, _, _, _, _, _, _, rfl, HN.out, by rw [htake]; exact hO3, (hB2.set_ 0 _).set_ 1 _, (hm2.setCell hB2 0 _).setCell (hB2.set_ 0 _) 1 _, (hb2.setCell (p := ⟨_, 0, none⟩) (Nat.le_refl _) _).setCell (p := ⟨_, 1, none⟩) (Nat.le_refl _) _⟩
      · rintro a' w' ⟨mb, j, cur, v9, u6, u7, u8, u10, u11, u12, u13, u14, u15, u16, u17, u18, u19, u20, u21, u22, u23, u24, u25, u26, u27, u28, u29, u30, u31, u32, u33, u34, u35, u36, u37, u38, rfl, hcur, hO, hB, hm, hb⟩
        have hj := (List.getElem?_eq_some_iff.1 hcur).1
        have c0 := hB.cell 0
        have c1 := hB.cell 1
        have f0 := hB.frozen 0
        have f1 := hB.frozen 1
        obtain ⟨A9, cap9, rfl⟩ := hO.shape
        have htk : ((chain l id).take j).length = j := by rw [List.length_take]; exact Nat.min_eq_left (by omega)
        have HT := hide htk
        have HC := hide hcur
        have hlen : (chain l id).length ≤ l.length + 1 := chain_length h id
        rcases chain_step h hcur with ⟨hlk, hend⟩ | ⟨i', b, hlk, hil, hbl, hnext⟩
        · have HK := hide hlk
          have HE := hide hend
          clear hlk hend htk hcur
          go_wp2_with (first | (at_builtin; refine wpList_app encID_len (by omega) encID_one (W := _) cur rfl (.tmp 24) (.tmp 26) rfl Try.underlying36 infoID rfl rfl rfl rfl hO (by rw [HT.out]; omega) (by omega) (by have := hb.size; have := hB.lt; omega) ?_; intro v9' w2 hO2 hg2; have hB2 := hB.grown hg2 (hO.ne (by omega)); have hm2 := hm.grown hg2 (hO.ne_map hm); have d0 := hB2.cell 0; have d1 := hB2.cell 1; have d2 := hB2.frozen 0; have d3 := hB2.frozen 1) | (at_lookup; refine wpList_look (encV := vInt) (m := m) rfl (.tmp 28) (.tmp 29) 92 false rfl keyEncID Try.underlying92 zeroInt rfl cur rfl hm2 ?_; rw [HK.out]) | go_step3)
          simp only [Exit.jump]
          go_ret
          have htake : (chain l id).take j ++ [cur] = chain l id := by rw [← take_snoc HC.out, ← HE.out, List.take_length]
          rw [htake] at hO2
          exact ⟨_, rfl, hO2.sl encID_len, below_row hb (by omega) hb.size hO hg2⟩
        · have HK := hide hlk
          have HN := hide hnext
          have HBL := hide hbl
          have HSw := hide hS
          clear hlk hnext hbl htk hcur
          obtain ⟨A, cap, rfl, hcap, hmax, hA⟩ := HSw.out
          obtain ⟨bb, off, rfl, hbb, hc⟩ := hA (by intro e; rw [e] at hil; simp at hil)
          have ek : ∀ (q : Nat) (u : Value), (encBlk b)[q]? = some u → w.cell? ⟨bb, off + i' * 5 + q, none⟩ = some u := hc i' b HBL.out
          have HEK := hide ek
          have hne : ((i' : Int) != -1) = true := by simp
          clear hA hc hmax ek
          go_wp2_with (first | (at_builtin; refine wpList_app encID_len (by omega) encID_one (W := _) cur rfl (.tmp 24) (.tmp 26) rfl Try.underlying36 infoID rfl rfl rfl rfl hO (by rw [HT.out]; omega) (by omega) (by have := hb.size; have := hB.lt; omega) ?_; intro v9' w2 hO2 hg2; have hB2 := hB.grown hg2 (hO.ne (by omega)); have hm2 := hm.grown hg2 (hO.ne_map hm); have d0 := hB2.cell 0; have d1 := hB2.cell 1; have d2 := hB2.frozen 0; have d3 := hB2.frozen 1; have hb2 := below_row hb (by omega) hb.size hO hg2; have e2 : w2.cell? ⟨bb, off + i' * 5 + 2, none⟩ = some (.int .u64 b.par.a.1) := (hb2.cell (p := ⟨bb, _, none⟩) hbb).trans (HEK.out 2 _ rfl); have e3 : w2.cell? ⟨bb, off + i' * 5 + 3, none⟩ = some (.int .u64 b.par.b.1) := (hb2.cell (p := ⟨bb, _, none⟩) hbb).trans (HEK.out 3 _ rfl)) | (at_lookup; refine wpList_look (encV := vInt) (m := m) rfl (.tmp 28) (.tmp 29) 92 false rfl keyEncID Try.underlying92 zeroInt rfl cur rfl hm2 ?_; rw [HK.out]) | go_step3)
          have htake : (chain l id).take (j + 1) = (chain l id).take j ++ [cur] := take_snoc HC.out
          have hO3 := hO2.grown (grown_set2 (g := w.heap.size) (.int .u64 b.par.a.1) (.int .u64 b.par.b.1) 0 1) (.inr fun e => by have := (hO2.lt e).1; omega)
          refine ⟨rfl, ⟨mb, j + 1, b.par, _, _, _, _, _, _, _, _, _, _, _, _, _, _, _, _, _, _, _, _, _, _, _, _, _, _, _, _, _, _, _, _, _, rfl, HN.out, by rw [htake]; exact hO3, (hB2.set_ 0 _).set_ 1 _, (hm2.setCell hB2 0 _).setCell (hB2.set_ 0 _) 1 _, (hb2.setCell (p := ⟨_, 0, none⟩) (Nat.le_refl _) _).setCell (p := ⟨_, 1, none⟩) (Nat.le_refl _) _⟩, ?_⟩
          have hv := (hO2.shape)
          obtain ⟨A', cap', rfl⟩ := hv
          simp [lenOfV]
          omega
end Go.Proofs.Ytbfjoakaofgapaa
