/- ffg.strong: the ways that there are enough for. -/
import Derived.Test.YtbfjoakaofgapaaFfgA
import Derived.Test.YtbfjoakaofgapaaRange
namespace Go.Proofs.Ytbfjoakaofgapaa
set_option linter.unusedSimpArgs false
set_option linter.unusedVariables false
set_option linter.unusedSectionVars false
open Go Go.RowKit
set_option maxRecDepth 100000

theorem sumC_bd (c : Cnf) (p : Fin c.W.length → Bool) : 0 ≤ sumC c p ∧ sumC c p ≤ 13194139533312 := by
  unfold sumC
  cases h : mayC c with
  | false => simp
  | true =>
    have hb := sumL_bd h ((List.finRange c.W.length).filter p)
    have hw : c.W.length ≤ 12 := by
      simp only [mayC, decide_eq_true_eq] at h
      exact h.2.1
    have hl : ((List.finRange c.W.length).filter p).length ≤ 12 := Nat.le_trans (List.length_filter_le _ _) (by simpa using hw)
    unfold sumL at hb
    simp only [if_true]
    omega
def totI (c : Cnf) : I64 := ⟨totalC c, by have := sumC_bd c (fun _ => true); unfold totalC; exact wf_i64 (by omega) (by omega)⟩
def weiI (c : Cnf) (fs : List I64) : I64 := ⟨weightC c fs, by have := sumC_bd c (fun i => memI fs (i.val : Int)); unfold weightC; exact wf_i64 (by omega) (by omega)⟩
def i2 : I64 := ⟨2, by decide⟩
def i3 : I64 := ⟨3, by decide⟩
def wayOf (x : Lnk) : Way := ⟨x.src, x.tgt⟩
/-- From whom links of a way are, that may be. -/
def frs (c : Cnf) (l : List Blk) (v : List Lnk) (y : Way) : List I64 := (v.filter fun x => mayL c l x && decide (wayOf x = y)).map (·.frm)
def enough (c : Cnf) (fs : List I64) : Bool := !moreZ i2 (totI c) i3 (weiI c fs)
def strongB (c : Cnf) (l : List Blk) (v : List Lnk) (y : Way) : Bool := !(frs c l v y).isEmpty && enough c (frs c l v y)
theorem frs_skip {c : Cnf} {l : List Blk} {v : List Lnk} {x : Lnk} (h : mayL c l x = false) (y : Way) : frs c l (v ++ [x]) y = frs c l v y := by simp [frs, h]
theorem frs_same {c : Cnf} {l : List Blk} {v : List Lnk} {x : Lnk} (h : mayL c l x = true) : frs c l (v ++ [x]) (wayOf x) = frs c l v (wayOf x) ++ [x.frm] := by simp [frs, h]
theorem frs_other {c : Cnf} {l : List Blk} {v : List Lnk} {x : Lnk} {y : Way} (h : y ≠ wayOf x) : frs c l (v ++ [x]) y = frs c l v y := by
  have : wayOf x ≠ y := fun e => h e.symm
  simp [frs, this]
theorem frs_len (c : Cnf) (l : List Blk) (v : List Lnk) (y : Way) : (frs c l v y).length ≤ v.length := by
  unfold frs; rw [List.length_map]; exact List.length_filter_le _ _

/-- The map from ways to whom they are from, as it is filled. -/
structure WhoAt (base : Nat) (w : World) (b : Nat) (F : Way → List I64) (m : List (Way × Value)) : Prop where
  map : MapAt vWay (fun v : Value => v) w b m
  own : ∀ p ∈ m, Own 1 encI 3 base w p.2 (F p.1)
  part : ∀ p ∈ m, ∀ q ∈ m, p.1 ≠ q.1 → p.2.ownBlock ≠ q.2.ownBlock
  keys : ∀ y, y ∈ m.map (·.1) ↔ F y ≠ []
theorem WhoAt.after {base : Nat} {w w' : World} {b : Nat} {F : Way → List I64} {m : List (Way × Value)} (h : WhoAt base w b F m) (hb : Below w.heap.size w w') : WhoAt base w' b F m :=
  ⟨h.map.after hb, fun p hp => (h.own p hp).after hb, h.part, h.keys⟩
theorem WhoAt.congr {base : Nat} {w : World} {b : Nat} {F G : Way → List I64} {m : List (Way × Value)} (h : WhoAt base w b F m) (e : ∀ y, G y = F y) : WhoAt base w b G m :=
  ⟨h.map, fun p hp => by rw [e]; exact h.own p hp, h.part, fun y => by rw [e]; exact h.keys y⟩
/-- The old slice of a way. -/
def oldV (m : List (Way × Value)) (y : Way) : Value := (look m y).getD (.slice none 0 0)
theorem WhoAt.old {base : Nat} {w : World} {b : Nat} {F : Way → List I64} {m : List (Way × Value)} (h : WhoAt base w b F m) (y : Way) : Own 1 encI 3 base w (oldV m y) (F y) := by
  unfold oldV
  cases hl : look m y with
  | none =>
    have : F y = [] := Classical.not_not.1 fun hn => look_none_iff.1 hl ((h.keys y).2 hn)
    rw [this]; exact Own.nil _ _
  | some v => exact h.own _ (look_mem hl)
/-- One more: m[y] = append(m[y], x), done. -/
theorem WhoAt.more {base : Nat} {w w' : World} {b : Nat} {F G : Way → List I64} {m : List (Way × Value)} {y : Way} {x : I64} {v' : Value} {W : World}
    (h : WhoAt base w b F m) (hs : w.heap.size ≤ W.heap.size) (hG : G y = F y ++ [x]) (hG' : ∀ z, z ≠ y → G z = F z)
    (hm : MapAt vWay (fun v : Value => v) w' b (put m y v')) (ho : Own 1 encI 3 base w' v' (F y ++ [x]))
    (hat : v'.ownBlock = (oldV m y).ownBlock ∨ v'.ownBlock = some W.heap.size)
    (hk : ∀ v xs, Own 1 encI 3 base w v xs → v.ownBlock = none ∨ v.ownBlock ≠ (oldV m y).ownBlock → Own 1 encI 3 base w' v xs) : WhoAt base w' b G (put m y v') := by
  have hsome := ho.some (by simp)
  have far : ∀ p ∈ m, p.1 ≠ y → p.2.ownBlock ≠ (oldV m y).ownBlock := by
    intro p hp hne
    unfold oldV
    cases hl : look m y with
    | none =>
      have hF : F p.1 ≠ [] := (h.keys p.1).1 (List.mem_map.2 ⟨p, hp, rfl⟩)
      obtain ⟨g, hg⟩ := (h.own p hp).some hF
      rw [hg]; simp [Value.ownBlock]
    | some v => exact h.part p hp (y, v) (look_mem hl) hne
  have far' : ∀ p ∈ m, p.1 ≠ y → p.2.ownBlock ≠ v'.ownBlock := by
    intro p hp hne he
    rcases hat with hat | hat
    · exact far p hp hne (he.trans hat)
    · have := ((h.own p hp).lt (he.trans hat)).2
      omega
  refine ⟨hm, ?_, ?_, ?_⟩
  · intro p hp
    rcases mem_put hp with rfl | ⟨hp, hne⟩
    · rw [hG]; exact ho
    · rw [hG' _ hne]; exact hk _ _ (h.own p hp) (.inr (far p hp hne))
  · intro p hp q hq hne
    rcases mem_put hp with rfl | ⟨hp, hp1⟩
    · rcases mem_put hq with rfl | ⟨hq, hq1⟩
      · exact absurd rfl hne
      · exact fun e => far' q hq hq1 e.symm
    · rcases mem_put hq with rfl | ⟨hq, hq1⟩
      · exact far' p hp hp1
      · exact h.part p hp q hq hne
  · intro z
    rw [mem_keys_put]
    by_cases hz : z = y
    · subst hz; rw [hG]; simp
    · rw [hG' z hz, ← h.keys z]; simp [hz]

/-- What a loop over keys has taken over so far: those that are no longer to come, and are good. -/
def Sieve {α : Type} (all left done : List α) (good : α → Bool) : Prop := all.Nodup ∧ left.Nodup ∧ (∀ x ∈ left, x ∈ all) ∧ ∀ x, x ∈ done ↔ x ∈ all ∧ x ∉ left ∧ good x = true
theorem Sieve.start {α : Type} {all : List α} (h : all.Nodup) (good : α → Bool) : Sieve all all [] good := ⟨h, h, fun _ h => h, fun x => by simp; intro h1 h2; exact absurd h1 h2⟩
theorem Sieve.fin {α : Type} {all done : List α} {good : α → Bool} (h : Sieve all [] done good) (x : α) : x ∈ done ↔ x ∈ all ∧ good x = true := by
  rw [h.2.2.2 x]; simp
theorem Sieve.skip {α : Type} {all l1 l2 done : List α} {x : α} {good : α → Bool} (h : Sieve all (l1 ++ x :: l2) done good) (hg : good x = false) : Sieve all (l1 ++ l2) done good := by
  obtain ⟨h1, h2, h3, h4⟩ := h
  have hs : (l1 ++ l2).Sublist (l1 ++ x :: l2) := List.Sublist.append (List.Sublist.refl _) (List.sublist_cons_self _ _)
  refine ⟨h1, hs.nodup h2, fun y hy => h3 y (hs.subset hy), fun y => ?_⟩
  rw [h4 y]
  constructor
  · rintro ⟨a, b, c⟩; exact ⟨a, fun hy => b (hs.subset hy), c⟩
  · rintro ⟨a, b, c⟩
    refine ⟨a, fun hy => ?_, c⟩
    simp only [List.mem_append, List.mem_cons] at hy b
    rcases hy with hy | rfl | hy
    · exact b (.inl hy)
    · rw [hg] at c; cases c
    · exact b (.inr hy)
theorem Sieve.take {α : Type} [DecidableEq α] {all l1 l2 done : List α} {x : α} {good : α → Bool} (h : Sieve all (l1 ++ x :: l2) done good) (hg : good x = true) : Sieve all (l1 ++ l2) (setPut done x) good := by
  obtain ⟨h1, h2, h3, h4⟩ := h
  have hs : (l1 ++ l2).Sublist (l1 ++ x :: l2) := List.Sublist.append (List.Sublist.refl _) (List.sublist_cons_self _ _)
  have hx : x ∉ l1 ++ l2 := by
    rw [List.nodup_append] at h2
    simp only [List.nodup_cons, List.mem_cons] at h2
    obtain ⟨_, ⟨a, _⟩, b⟩ := h2
    simp only [List.mem_append]
    rintro (hy | hy)
    · exact b x hy x (.inl rfl) rfl
    · exact a hy
  refine ⟨h1, hs.nodup h2, fun y hy => h3 y (hs.subset hy), fun y => ?_⟩
  rw [mem_setPut, h4 y]
  constructor
  · rintro (⟨a, b, c⟩ | rfl)
    · exact ⟨a, fun hy => b (hs.subset hy), c⟩
    · exact ⟨h3 y (by simp), hx, hg⟩
  · rintro ⟨a, b, c⟩
    by_cases e : y = x
    · exact .inr e
    · refine .inl ⟨a, fun hy => ?_, c⟩
      simp only [List.mem_append, List.mem_cons] at hy b
      rcases hy with hy | rfl | hy
      · exact b (.inl hy)
      · exact e rfl
      · exact b (.inr hy)

def StrongRes (c : Cnf) (l : List Blk) (v : List Lnk) (e : Ending) (w' : World) : Prop := ∃ o s, e = .returned (.map (some o)) ∧ SetAt vWay w' o s ∧ ∀ y, y ∈ s ↔ strongB c l v y = true
theorem zeroSlI (w : World) : (zeroValue 22).run Try.prog w = .ok (.slice none 0 0) w := by kernel_rfl
set_option maxHeartbeats 4000000 in
theorem strong_any (c : Cnf) (v : Value) (l : List Blk) (vl : Value) (ls : List Lnk) (vs : Value) (w : World) (hC : CnfAt w v c) (hS : Sl 5 encBlk w vl l) (hl : l.length ≤ 900000) (hL : Sl 7 encLnk w vs ls) (hls : ls.length ≤ 900000) :
    Calls Try.prog 70 #[v, vl, vs] w fun e w' => StrongRes c l ls e w' ∧ Below w.heap.size w w' := by
  have HC := hide hC
  have HS := hide hS
  obtain ⟨s, rfl, hs⟩ := hC
  have HL := hide hL
  have hlen := hL.len_le
  obtain ⟨A, cap, rfl, hcap, hmax, hA⟩ := hL
  clear hmax hs hS
  have hmm := @run_makeMap Try.prog
  go_enter Try.func70, Try.ntmps70
  go_wp2
  obtain ⟨W, hW⟩ : ∃ W, (w.alloc (.cells #[s, .int .u64 c.seed.1, .int .i64 c.epoch.1, .int .i64 c.num.1, .int .i64 c.den.1] 25)).alloc (.map #[] 0) = W := ⟨_, rfl⟩
  have hbW : Below w.heap.size w W := by rw [← hW]; exact (below_alloc w _).alloc (by simp) _
  have hB : Blok W w.heap.size 25 #[s, .int .u64 c.seed.1, .int .i64 c.epoch.1, .int .i64 c.num.1, .int .i64 c.den.1] := by rw [← hW]; exact (Blok.new _ _ _).alloc _
  have hM : WhoAt (w.heap.size + 2) W (w.heap.size + 1) (frs c l []) [] := ⟨by rw [← hW]; simpa using MapAt.new (encK := vWay) (encV := fun v : Value => v) (w.alloc (.cells #[s, .int .u64 c.seed.1, .int .i64 c.epoch.1, .int .i64 c.num.1, .int .i64 c.den.1] 25)), by simp, by simp, by simp [frs]⟩
  have hsz : w.heap.size + 2 ≤ W.heap.size := by rw [← hW]; simp
  rw [hW]
  clear hW
  go_loopw [18] (fun i wr => ∃ (k : Nat) (m : List (Way × Value)), k ≤ ls.length ∧ i = .int .i64 k ∧ Below w.heap.size w wr ∧ Blok wr w.heap.size 25 #[s, .int .u64 c.seed.1, .int .i64 c.epoch.1, .int .i64 c.num.1, .int .i64 c.den.1] ∧ WhoAt (w.heap.size + 2) wr (w.heap.size + 1) (frs c l (ls.take k)) m ∧ w.heap.size + 2 ≤ wr.heap.size) (fun i _ => ls.length - (intOf i).toNat)
  case atStart => exact ⟨0, _, Nat.zero_le _, rfl, hbW, hB, hM, hsz⟩
  case round =>
    obtain ⟨k, m, hk, rfl, hb, hb1, hm1, hz1⟩ := hrel
    clear hbW hB hM hsz
    by_cases hlt : k < ls.length
    · obtain ⟨x, hx⟩ : ∃ x, ls[k]? = some x := ⟨_, List.getElem?_eq_getElem hlt⟩
      obtain ⟨b, off, rfl, hbl, hc⟩ := hA (by intro h; subst h; simp at hlt)
      have rd : ∀ i u, (encLnk x)[i]? = some u → wr.cell? ⟨b, off + k * 7 + i, none⟩ = some u := fun i u hu => (hb.cell (p := ⟨b, _, none⟩) hbl).trans (hc k x hx i u hu)
      have e0 : wr.cell? ⟨b, off + k * 7, none⟩ = some (.int .i64 x.frm.1) := rd 0 _ rfl
      have e1 := rd 1 _ rfl
      have e2 := rd 2 _ rfl
      have e3 := rd 3 _ rfl
      have e4 := rd 4 _ rfl
      have e5 := rd 5 _ rfl
      have e6 := rd 6 _ rfl
      have HT := hide (take_snoc hx)
      clear hx hc hA rd
      have c0 := hb1.cell 0
      have c1 := hb1.cell 1
      have c2 := hb1.cell 2
      have c3 := hb1.cell 3
      have c4 := hb1.cell 4
      have hz2 : w.heap.size < wr.heap.size := by omega
      go_wp2_with fail
      obtain ⟨W2, hW2⟩ : ∃ W2, wr.alloc (.cells #[.int .i64 x.frm.1, .int .i64 x.src.ep.1, .int .u64 x.src.root.a.1, .int .u64 x.src.root.b.1, .int .i64 x.tgt.ep.1, .int .u64 x.tgt.root.a.1, .int .u64 x.tgt.root.b.1] 44) = W2 := ⟨_, rfl⟩
      have hB2 : Blok W2 wr.heap.size 44 #[.int .i64 x.frm.1, .int .i64 x.src.ep.1, .int .u64 x.src.root.a.1, .int .u64 x.src.root.b.1, .int .i64 x.tgt.ep.1, .int .u64 x.tgt.root.a.1, .int .u64 x.tgt.root.b.1] := by rw [← hW2]; exact Blok.new _ _ _
      have hb12 : Below wr.heap.size wr W2 := by rw [← hW2]; exact below_alloc _ _
      rw [hW2]
      clear hW2
      refine (ffgMay_any c _ l vl x _ ((HC.out.after hb).after hb12) ((HS.out.after hb).after hb12) hl).mono ?_
      rintro e w1 ⟨rfl, hbm⟩
      have hb13 := below_ext hb12 hbm
      replace hB2 := hB2.after hbm
      clear hb12 hbm e0 e1 e2 e3 e4 e5 e6 c0 c1 c2 c3 c4
      have hm2 := hide (hm1.after hb13)
      replace hb1 := hb1.after hb13
      have hb' := below_then hb hb.size hb13
      have hz3 : w.heap.size + 2 ≤ w1.heap.size := Nat.le_trans hz1 hb13.size
      clear hb13 hm1
      cases hmay : mayL c l x with
      | false =>
        have HM := hide hmay
        clear hmay
        go_wp2
        go_roundw
        case rel => exact ⟨k + 1, m, by omega, by go_num, hb', hb1, hm2.out.congr (fun y => by rw [HT.out]; exact frs_skip HM.out y), hz3⟩
        case measure => simp [intOf]; omega
      | true =>
        have HM := hide hmay
        clear hmay
        have c0 := hB2.cell 0
        have c1 := hB2.cell 1
        have c2 := hB2.cell 2
        have c3 := hB2.cell 3
        have c4 := hB2.cell 4
        have c5 := hB2.cell 5
        have c6 := hB2.cell 6
        have hlt2 := hB2.lt
        obtain ⟨W3, hW3⟩ : ∃ W3, (w1.alloc (.cells #[.int .i64 x.src.ep.1, .int .u64 x.src.root.a.1, .int .u64 x.src.root.b.1, .int .i64 x.tgt.ep.1, .int .u64 x.tgt.root.a.1, .int .u64 x.tgt.root.b.1] 107)).alloc (.cells #[.int .i64 x.frm.1] 3) = W3 := ⟨_, rfl⟩
        have hb23 : Below w1.heap.size w1 W3 := by rw [← hW3]; exact (below_alloc _ _).alloc (by simp) _
        have hB3 : Blok W3 (w1.heap.size + 1) 3 (encI x.frm).toArray := by rw [← hW3]; simpa [encI] using Blok.new (w1.alloc (.cells #[.int .i64 x.src.ep.1, .int .u64 x.src.root.a.1, .int .u64 x.src.root.b.1, .int .i64 x.tgt.ep.1, .int .u64 x.tgt.root.a.1, .int .u64 x.tgt.root.b.1] 107)) 3 (encI x.frm).toArray
        have hz4 : W3.heap.size = w1.heap.size + 2 := by rw [← hW3]; simp
        have hm3 := hide (hm2.out.after hb23)
        have hb3 := hide (hb1.after hb23)
        have hold := hide (hm3.out.old (wayOf x))
        have hlen3 := frs_len c l (ls.take k) (wayOf x)
        rw [List.length_take] at hlen3
        have Hlen3 := hide hlen3
        clear hlen3
        go_wp2_with (first
          | (refine wpList_mapEntry (encV := fun v : Value => v) (m := m) rfl (.tmp 31) (.tmp 32) 154 rfl keyEncWay Try.underlying154 (.slice none 0 0) zeroSlI rfl (wayOf x) rfl ?_ ?_; exact hm3.out.map; (intro W4 st hE4 hg4; rw [show (look m (wayOf x)).getD (.slice none 0 0) = oldV m (wayOf x) from rfl] at hE4 ⊢))
          | (refine wpList_app_at encI_len (by omega) encI_one x.frm (w1.heap.size + 1) rfl (.tmp 33) (.tmp 36) rfl Try.underlying22 infoI rfl rfl rfl (hB3.grown hg4 (by simp; omega)) (hold.out.grown hg4 (.inr (fun e => hold.out.ne_map hm3.out.map e.symm))) (by have := Hlen3.out; omega) (by omega) (by have := hg4.size; omega) ?_; intro v' W5 ho5 hg5 hat5)
          | (refine wpList_entryStore (encV := fun v : Value => v) rfl (.tmp 31) (.tmp 39) (.tmp 38) 154 rfl keyEncWay rfl (wayOf x) st rfl v' rfl (hE4.grown hg5 (hold.out.ne_map hm3.out.map)) ?_; intro W6 hm6 hg6))
        rw [put_put] at hm6
        have hE5 := hE4.grown hg5 (hold.out.ne_map hm3.out.map)
        have hbZ : Below w.heap.size w W6 := (((below_then hb' hb'.size hb23).grown hg4 (by omega) (fun j hj => by cases hj; omega)).grown hg5 (by have := hg4.size; omega) (fun j hj => by have := (hold.out.lt hj).1; omega)).grown hg6 (by have := hg4.size; have := hg5.size; omega) (fun j hj => by cases hj; omega)
        have hBz := ((hb3.out.grown hg4 (by simp)).grown hg5 (hold.out.ne (by omega))).grown hg6 (by simp)
        have hWz : WhoAt (w.heap.size + 2) W6 (w.heap.size + 1) (frs c l (ls.take (k + 1))) (put m (wayOf x) v') := by
          rw [HT.out]
          refine WhoAt.more (W := W4) hm3.out hg4.size (frs_same HM.out) (fun z hz => frs_other hz) hm6 (ho5.grown hg6 (.inr (fun e => ho5.ne_map hE5.mapAt e.symm))) hat5 ?_
          intro v0 xs h0 hne
          have h1 := h0.grown hg4 (.inr (fun e => h0.ne_map hm3.out.map e.symm))
          have h2 := h1.grown hg5 hne
          exact h2.grown hg6 (.inr (fun e => h2.ne_map hE5.mapAt e.symm))
        have hzZ : w.heap.size + 2 ≤ W6.heap.size := by have := hg4.size; have := hg5.size; have := hg6.size; omega
        go_roundw
        case rel => exact ⟨k + 1, _, by omega, by go_num, hbZ, hBz, hWz, hzZ⟩
        case measure => simp [intOf]; omega
    · have hkl : k = ls.length := by omega
      subst hkl
      rw [List.take_length] at hm1
      clear hlt hk hA
      obtain ⟨wo, hwo⟩ : ∃ wo, wo = wr := ⟨_, rfl⟩
      subst hwo
      have c0 := hb1.cell 0
      have c1 := hb1.cell 1
      have c2 := hb1.cell 2
      have c3 := hb1.cell 3
      have c4 := hb1.cell 4
      have hz2 : w.heap.size < wo.heap.size := by omega
      go_wp2_with fail
      have hbW : Below wo.heap.size wo (wo.alloc (.map #[] 0)) := below_alloc _ _
      have hO0 : SetAt vWay (wo.alloc (.map #[] 0)) wo.heap.size [] := MapAt.new _
      refine (total_any c _ _ ((HC.out.after hb).after hbW)).mono ?_
      rintro e w1 ⟨rfl, hbt⟩
      have hb' := below_then hb hb.size (below_ext hbW hbt)
      have HB1 := hide ((hb1.after hbW).after hbt)
      have HM1 := hide ((hm1.after hbW).after hbt)
      have HO := hide (hO0.after hbt)
      have hz3 : wo.heap.size + 1 ≤ w1.heap.size := by have := hbt.size; simpa using this
      clear hbW hbt hO0 hb1 hm1 c0 c1 c2 c3 c4
      go_wp2_with (at_range; refine wpList_range (encV := fun v : Value => v) rfl (.tmp 44) 154 rfl Try.underlying154 rfl HM1.out.map ?_; intro w2 hr2 hb2 hs2)
      go_frame
      have HB2 := hide (HB1.out.after hb2)
      have HM2 := hide (HM1.out.after hb2)
      have HO2 := hide (HO.out.after hb2)
      have hb'' := below_then hb' hb'.size hb2
      clear HB1 HM1 HO
      go_loopw [46] (fun _ wr' => ∃ (left : List (Way × Value)) (s2 : List Way), RangeAt vWay (fun v : Value => v) wr' (w.heap.size + 1) w1.heap.size m left ∧ Below w.heap.size w wr' ∧ w1.heap.size + 1 ≤ wr'.heap.size ∧
          Blok wr' w.heap.size 25 #[s, .int .u64 c.seed.1, .int .i64 c.epoch.1, .int .i64 c.num.1, .int .i64 c.den.1] ∧ WhoAt (w.heap.size + 2) wr' (w.heap.size + 1) (frs c l ls) m ∧ SetAt vWay wr' wo.heap.size s2 ∧ Sieve (m.map (·.1)) (left.map (·.1)) s2 (fun y => enough c (frs c l ls y)) ∧ ∀ p ∈ left, p ∈ m)
        (fun _ wr' => rangeLeft wr' (w.heap.size + 1) w1.heap.size)
      case atStart => exact ⟨m, [], hr2, hb'', by omega, HB2.out, HM2.out, HO2.out, Sieve.start (by simpa using HM2.out.map.nodup keyEncWay) _, fun _ h => h⟩
      case round =>
        obtain ⟨left, s2, hr, hbr, hszr, hBr, hMr, hOr, hSv, hsub⟩ := hrel
        clear hb2 hr2 hs2 HB2 HM2 HO2 hb'' hb hb'
        go_wp2_with (at_next; refine wpList_next rfl (.tmp 45) rfl rfl hr ?_ ?_)
        · intro hl0
          subst hl0
          have hfin : StrongRes c l ls (.returned (.map (some wo.heap.size))) wr := ⟨_, s2, rfl, hOr, fun y => by
            rw [hSv.fin y, hMr.keys y]
            unfold strongB
            cases frs c l ls y <;> simp⟩
          have HF := hide hfin
          clear hfin
          go_wp2
          go_ret
          exact ⟨HF.out, hbr⟩
        · rintro y vv l1 l2 w3 hl hr3 hg3 hs3 hen
          subst hl
          dsimp only [vWay] at hen ⊢
          have hbn : Below w.heap.size w w3 := hbr.grown hg3 hbr.size (fun j hj => by cases hj; omega)
          have hBn := hBr.grown hg3 (by simp; omega)
          have hMn : WhoAt (w.heap.size + 2) w3 (w.heap.size + 1) (frs c l ls) m := ⟨hr3.mapAt, fun p hp => (hMr.own p hp).grown hg3 (.inr fun e => hr.ne_own (hMr.own p hp) e.symm), hMr.part, hMr.keys⟩
          have hOn : SetAt vWay w3 wo.heap.size s2 := MapAt.grown hOr hg3 (by simp; omega)
          have hmem : (y, vv) ∈ m := hsub _ (by simp)
          have HSub : Hid (∀ p ∈ l1 ++ l2, p ∈ m) := fun p hp => hsub p (by simp only [List.mem_append, List.mem_cons] at hp ⊢; exact hp.elim .inl (fun h => .inr (.inr h)))
          have HSv := hide hSv
          have HLo := hide hr.left_eq
          have hsz3 : w1.heap.size + 1 ≤ w3.heap.size := by omega
          clear hr hbr hBr hMr hOr hg3 hs3 hszr hsub hSv
          have c0 := hBn.cell 0
          have c1 := hBn.cell 1
          have c2 := hBn.cell 2
          have c3 := hBn.cell 3
          have c4 := hBn.cell 4
          have hz5 : w.heap.size < w3.heap.size := by omega
          go_wp2_with fail
          obtain ⟨W4, hW4⟩ : ∃ W4, w3.alloc (.cells #[.int .i64 y.src.ep.1, .int .u64 y.src.root.a.1, .int .u64 y.src.root.b.1, .int .i64 y.tgt.ep.1, .int .u64 y.tgt.root.a.1, .int .u64 y.tgt.root.b.1] 107) = W4 := ⟨_, rfl⟩
          have hB4 : Blok W4 w3.heap.size 107 #[.int .i64 y.src.ep.1, .int .u64 y.src.root.a.1, .int .u64 y.src.root.b.1, .int .i64 y.tgt.ep.1, .int .u64 y.tgt.root.a.1, .int .u64 y.tgt.root.b.1] := by rw [← hW4]; exact Blok.new _ _ _
          have hb34 : Below w3.heap.size w3 W4 := by rw [← hW4]; exact below_alloc _ _
          have hwe : (weiI c (frs c l ls y)).1 = weightC c (frs c l ls y) := rfl
          have hte : (totI c).1 = totalC c := rfl
          have HV := hide ((((hMn.own _ hmem).sl encI_len).after hb34))
          have HC4 := hide ((HC.out.after hbn).after hb34)
          rw [hW4]
          clear hW4
          refine (weight_any c _ (frs c l ls y) vv _ HC4.out HV.out).mono ?_
          rintro e w5 ⟨rfl, hb45⟩
          have hb35 := below_ext hb34 hb45
          replace hB4 := hB4.after hb45
          rw [← hwe]
          go_wp2_with fail
          rw [← hte]
          refine (more_any i2 (totI c) i3 (weiI c (frs c l ls y)) _).mono ?_
          rintro e w6 ⟨rfl, hb56⟩
          have hb36 := below_ext hb35 hb56
          replace hB4 := hB4.after hb56
          have hbz := below_then hbn hbn.size hb36
          have hBz := hBn.after hb36
          have hMz := hMn.after hb36
          have hOz := hOn.after hb36
          have hrz := hr3.after hb36
          have hszz : w1.heap.size + 1 ≤ w6.heap.size := Nat.le_trans hsz3 hb36.size
          clear hb34 hb45 hb35 hb56 hb36 hbn hBn hMn hOn hr3 HV HC4 c0 c1 c2 c3 c4
          have hen2 : enough c (frs c l ls y) = !moreZ i2 (totI c) i3 (weiI c (frs c l ls y)) := rfl
          cases hmo : moreZ i2 (totI c) i3 (weiI c (frs c l ls y)) with
          | true =>
            have HG : Hid (enough c (frs c l ls y) = false) := by unfold Hid; rw [hen2, hmo]; rfl
            have HMO := hide hmo
            clear hen2 hmo
            go_wp2
            go_roundw
            case rel =>
              refine ⟨_, s2, hrz, hbz, hszz, hBz, hMz, hOz, ?_, HSub.out⟩
              have := HSv.out
              rw [List.map_append, List.map_cons] at this
              rw [List.map_append]
              exact this.skip HG.out
            case measure => rw [hrz.left_eq, HLo.out]; simp
          | false =>
            have HG : Hid (enough c (frs c l ls y) = true) := by unfold Hid; rw [hen2, hmo]; rfl
            have HMO := hide hmo
            clear hen2 hmo
            have d0 := hB4.cell 0
            have d1 := hB4.cell 1
            have d2 := hB4.cell 2
            have d3 := hB4.cell 3
            have d4 := hB4.cell 4
            have d5 := hB4.cell 5
            go_wp2_with (at_mapUpdate; refine wpList_put (encV := vB) rfl (.tmp 57) (.tmp 58) (.const (.bool true)) 103 (.inl rfl) keyEncWay Try.underlying103 rfl hOz y true rfl rfl ?_; intro w7 hm7 hg7)
            go_frame
            go_roundw
            case rel =>
              rw [put_set] at hm7
              refine ⟨_, setPut s2 y, hrz.grown hg7 (by simp; omega) (by simp; omega), hbz.grown hg7 hbz.size (fun j hj => by cases hj; omega), Nat.le_trans hszz hg7.size, hBz.grown hg7 (by simp; omega), ?_, hm7, ?_, HSub.out⟩
              · exact ⟨hMz.map.grown hg7 (by simp; omega), fun p hp => (hMz.own p hp).grown hg7 (.inr fun e => (hMz.own p hp).ne_map hOz e.symm), hMz.part, hMz.keys⟩
              · have := HSv.out
                rw [List.map_append, List.map_cons] at this
                rw [List.map_append]
                exact this.take HG.out
            case measure => rw [(hrz.grown hg7 (by simp; omega) (by simp; omega)).left_eq, HLo.out]; simp
end Go.Proofs.Ytbfjoakaofgapaa
