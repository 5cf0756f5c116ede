/- The walk of the law RecordMissing: it returns true. -/
import Derived.Test.YtbcmpfdhpefdbaaLTrip
import Derived.Test.YtbcmpfdhpefdbaaMissP
set_option linter.unusedVariables false
set_option linter.unusedSimpArgs false
namespace Go.Proofs.Ytbcmpfdhpefdbaa
open Go.RowKit
attribute [local irreducible] Go.Calls

/-- what holds behind the change of the list: the boxes of both records, and what Decode answers -/
def MissOk (a b : Rec) (hm k kb : Nat) (ss : List (List UInt8)) : Prop :=
  ((decode ss).2.1 = 0 ∧ ((decode ss).2.2 = 5 ∨ (decode ss).2.2 = 6)) ∨ (hm = 2 ∧ (decode ss).2.2 = 0 ∧ ((a.gen = b.gen ∧ a.seq = b.seq) ∨ (¬ (a.gen = b.gen ∧ a.seq = b.seq) ∧ k = 0 ∧ kb = 1 ∧ (decode ss).1 = b)))

theorem miss0 {a b : Rec} (ha : a.Ok) (va : a.vld = true) {k hm kb : Nat} (hk : k < nChunks (payl a).length) : MissOk a b hm k kb ((sectors a).set k []) :=
  .inl (miss_err (SecsOf.rec_ ha va) hk (fun i hi => by rw [List.getElem?_set_ne (by omega)]; rfl) (fun s hs => by
    rw [List.getElem?_set_self (by rw [sectors_len]; exact hk)] at hs
    injection hs with hs
    rw [← hs]
    decide))
theorem miss1 {a b : Rec} (ha : a.Ok) (va : a.vld = true) {k hm kb : Nat} (hk : k < nChunks (payl a).length) {s0 : List UInt8} (h0 : (sectors a)[k]? = some s0) : MissOk a b hm k kb ((sectors a).set k (s0.take (s0.length / 2))) :=
  .inl (miss_err (SecsOf.rec_ ha va) hk (fun i hi => by rw [List.getElem?_set_ne (by omega)]; rfl) (fun s hs => by
    rw [List.getElem?_set_self (by rw [sectors_len]; exact hk)] at hs
    injection hs with hs
    rw [sectors_at hk] at h0
    injection h0 with h0
    rw [← hs, ← h0]
    refine insp_cut (by rw [secsP_insp (SecsOf.rec_ ha va) hk]) ?_
    have : 0 < (sectorB a.gen a.seq k (nChunks (payl a).length) (chunkAt (payl a) k)).length := by
      simp only [sectorB, sealB_len]; omega
    omega))
theorem miss3 {a b : Rec} (ha : a.Ok) (va : a.vld = true) {k hm kb : Nat} (hk : k < nChunks (payl a).length) : MissOk a b hm k kb ((sectors a).take k) :=
  .inl (miss_err (SecsOf.rec_ ha va) hk (fun i hi => by rw [List.getElem?_take_of_lt hi]; rfl) (fun s hs => by
    rw [List.getElem?_eq_none (by rw [List.length_take]; omega)] at hs
    cases hs))
theorem miss2 {a b : Rec} (ha : a.Ok) (va : a.vld = true) (hb : b.Ok) (vb : b.vld = true) {k j : Nat} (hk : k < nChunks (payl a).length) (hj : j < nChunks (payl b).length) {s0 : List UInt8} (h0 : (sectors b)[j]? = some s0) :
    MissOk a b 2 k (nChunks (payl b).length) ((sectors a).set k s0) := by
  rw [sectors_at hj] at h0
  injection h0 with h0
  subst h0
  by_cases hgs : a.gen = b.gen ∧ a.seq = b.seq
  · rcases decode_cases ((sectors a).set k (sectorB b.gen b.seq j (nChunks (payl b).length) (chunkAt (payl b) j))) with h | h
    · exact .inl h
    · exact .inr ⟨rfl, h.1, .inl hgs⟩
  · rcases miss_other (SecsOf.rec_ ha va) (SecsOf.rec_ hb vb) hgs hk hj with h | ⟨h1, h2, h3⟩
    · exact .inl h
    · have e := decode_trip hb vb ((sectors a).drop 1)
      have h3' : (sectors a).set k (sectorB b.gen b.seq j (nChunks (payl b).length) (chunkAt (payl b) j)) = sectors b ++ (sectors a).drop 1 := h3
      refine .inr ⟨rfl, by rw [h3', e], .inr ⟨hgs, h1, h2, by rw [h3', e]⟩⟩
theorem OwnS.at_ {w : World} {base : Nat} {F : Nat → Prop} {A : Option Addr} {n c : Nat} {ss : List (List UInt8)} (h : OwnS base F w (.slice A n c) ss) {j : Nat} {s : List UInt8} (hs : ss[j]? = some s) :
    ∃ b o A' c', A = some ⟨b, o, none⟩ ∧ base ≤ b ∧ b < w.heap.size ∧ w.cell? ⟨b, o + j, none⟩ = some (.slice A' (List.length s) c') ∧ s.length ≤ c' ∧ c' ≤ maxLen ∧ RdB w (fun q => q < w.heap.size ∧ q ≠ b) A' s.length s := by
  obtain ⟨A0, c0, hv, _, _⟩ := h.form
  injection hv with hv1 hv2 hv3
  subst hv2
  have hlt := fun k hk => h.lt k hk
  have hj : j < ss.length := (List.getElem?_eq_some_iff.1 hs).1
  obtain ⟨xs, h1, h2⟩ := h
  obtain ⟨b, o, rfl, hF, hc⟩ := (Rd.of_own h1).2 (by omega)
  obtain ⟨A', c', e1, e2, e3, e4⟩ := h2.2 j s hs
  exact ⟨b, o, A', c', rfl, hF.2, hF.1, hc j _ e1, e2, e3, e4.more (fun q hq => ⟨hq.1, fun e => hq.2.2 (by rw [e]; rfl)⟩)⟩
theorem mem_set {α : Type} {l : List α} {k : Nat} {x y : α} (h : y ∈ l.set k x) : y ∈ l ∨ y = x := List.mem_or_eq_of_mem_set h

set_option maxRecDepth 100000 in
set_option maxHeartbeats 2000000 in
theorem lawMissing_any (a : Rec) (Aw : Option Addr) (nw cw : Nat) (Am : Option Addr) (nm cm : Nat) (An : Option Addr) (nn cn : Nat) (b : Rec) (Bw : Option Addr) (mw dw : Nat) (Bm : Option Addr) (mm dm : Nat) (Bn : Option Addr) (mn dn : Nat) (at_ how : Nat) (w : World)
    (h : RecIn w (fun k => k < w.heap.size) a Aw nw cw Am nm cm An nn cn) (g : RecIn w (fun k => k < w.heap.size) b Bw mw dw Bm mm dm Bn mn dn) (hat : at_ < 256) (hhow : how < 256) :
    Calls Try.prog 9 #[.agg (recCells a Aw nw cw Am nm cm An nn cn), .agg (recCells b Bw mw dw Bm mm dm Bn mn dn), .int .u8 (at_ : Int), .int .u8 (how : Int)] w (LawPost w) := by
  obtain ⟨W, hW⟩ : ∃ W, W = (w.alloc (.cells (recCells a Aw nw cw Am nm cm An nn cn) 27)).alloc (.cells (recCells b Bw mw dw Bm mm dm Bn mn dn) 27) := ⟨_, rfl⟩
  have hWb : Below w.heap.size w W := by rw [hW]; exact ((Below.refl _ _).alloc (Nat.le_refl _) _).alloc (by simp) _
  have hl : Blk W w.heap.size 27 (recCells a Aw nw cw Am nm cm An nn cn) := by rw [hW]; exact (Blk.new w _ _).alloc _
  have hr : Blk W (w.heap.size + 1) 27 (recCells b Bw mw dw Bm mm dm Bn mn dn) := by
    rw [hW]
    have := Blk.new (w.alloc (.cells (recCells a Aw nw cw Am nm cm An nn cn) 27)) 27 (recCells b Bw mw dw Bm mm dm Bn mn dn)
    simpa using this
  go_enter Try.func9, Try.ntmps9
  go_wp2_with fail
  rw [← hW]
  refine (awake27_any _).mono ?_
  rintro e w1 ⟨rfl, hb1⟩
  have hbw1 := hWb.trans (hb1.mono hWb.size)
  have hz1 := hbw1.size
  have hba1 := hl.below hb1 hl.lt
  have hbb1 := hr.below hb1 hr.lt
  clear hl hr hW hWb hb1
  have hba1' := hid hba1
  go_wp2_with ((with_reducible refine at_wl ?_); (refine wpList_ldBlk rfl 27 _ rfl w.heap.size 27 _ hba1'.out _ rfl Try.underlying27 rfl info_rec ?_))
  refine (short_any (fun k => k < w.heap.size) a Aw nw cw Am nm cm An nn cn _ (h.keep (Kp.of_below hbw1 (fun k hk => hk)))).mono ?_
  rintro e w2 ⟨rfl, hb2⟩
  have hbw2 := hbw1.trans (hb2.mono hz1)
  have hz2 := hbw2.size
  have hba2 := hba1.below hb2 (by have := hba1.lt; omega)
  have hbb2 := hbb1.below hb2 (by have := hbb1.lt; omega)
  cases hsa : a.short with
  | false =>
    go_wp2_with fail
    go_ret
    exact ⟨rfl, hbw2⟩
  | true =>
    obtain ⟨x0, x1, x2, x3, x4⟩ := hba2.rec5
    go_wp2_with fail
    refine (valid27_any (fun k => k < w.heap.size) a Aw nw cw Am nm cm An nn cn _ (h.keep (Kp.of_below hbw2 (fun k hk => hk))) (fun k hk => by omega)).mono ?_
    rintro e w3 ⟨rfl, hb3⟩
    have hbw3 := hbw2.trans (hb3.mono hz2)
    have hz3 := hbw3.size
    have hba3 := hba2.below hb3 (by have := hba2.lt; omega)
    have hbb3 := hbb2.below hb3 (by have := hbb2.lt; omega)
    clear x0 x1 x2 x3 x4
    cases hva : a.vld with
    | false =>
      go_wp2_with fail
      go_ret
      exact ⟨rfl, hbw3⟩
    | true =>
      have hva' := hid hva
      clear hva
      obtain ⟨x0, x1, x2, x3, x4⟩ := hbb3.rec5
      go_wp2_with fail
      refine (short_any (fun k => k < w.heap.size) b Bw mw dw Bm mm dm Bn mn dn _ (g.keep (Kp.of_below hbw3 (fun k hk => hk)))).mono ?_
      rintro e w4 ⟨rfl, hb4⟩
      have hbw4 := hbw3.trans (hb4.mono hz3)
      have hz4 := hbw4.size
      have hba4 := hba3.below hb4 (by have := hba3.lt; omega)
      have hbb4 := hbb3.below hb4 (by have := hbb3.lt; omega)
      clear x0 x1 x2 x3 x4
      cases hsb : b.short with
      | false =>
        go_wp2_with fail
        go_ret
        exact ⟨rfl, hbw4⟩
      | true =>
        obtain ⟨x0, x1, x2, x3, x4⟩ := hbb4.rec5
        go_wp2_with fail
        refine (valid27_any (fun k => k < w.heap.size) b Bw mw dw Bm mm dm Bn mn dn _ (g.keep (Kp.of_below hbw4 (fun k hk => hk))) (fun k hk => by omega)).mono ?_
        rintro e w5 ⟨rfl, hb5⟩
        have hbw5 := hbw4.trans (hb5.mono hz4)
        have hz5 := hbw5.size
        have hba5 := hba4.below hb5 (by have := hba4.lt; omega)
        have hbb5 := hbb4.below hb5 (by have := hbb4.lt; omega)
        clear x0 x1 x2 x3 x4
        cases hvb : b.vld with
        | false =>
          go_wp2_with fail
          go_ret
          exact ⟨rfl, hbw5⟩
        | true =>
          have hvb' := hid hvb
          clear hvb
          have hPa : encP a = sectors a := by rw [encP, hva'.out, if_pos rfl]
          have hPb : encP b = sectors b := by rw [encP, hvb'.out, if_pos rfl]
          have hEa : encE a = 0 := by rw [encE, hva'.out]; rfl
          have hEb : encE b = 0 := by rw [encE, hvb'.out]; rfl
          obtain ⟨hes, hess⟩ := encP_small h.ok
          obtain ⟨hfs, hfss⟩ := encP_small g.ok
          rw [hPa] at hes hess
          rw [hPb] at hfs hfss
          have hba5' := hid hba5
          go_wp2_with ((with_reducible refine at_wl ?_); (refine wpList_ldBlk rfl 27 _ rfl w.heap.size 27 _ hba5'.out _ rfl Try.underlying27 rfl info_rec ?_))
          refine (encode27_any (fun k => k < w.heap.size) a Aw nw cw Am nm cm An nn cn _ (h.keep (Kp.of_below hbw5 (fun k hk => hk))) (fun k hk => by omega)).mono ?_
          rintro e w6 ⟨v6, rfl, hown6, hb6⟩
          have hbw6 := hbw5.trans (hb6.mono hz5)
          have hz6 := hbw6.size
          have hz56 := hb6.size
          have hba6 := hba5.below hb6 hba5.lt
          have hbb6 := hbb5.below hb6 hbb5.lt
          rw [hPa] at hown6
          rw [hEa]
          obtain ⟨A6, c6, rfl, hc6, hm6⟩ := hown6.form
          have hbb6' := hid hbb6
          go_wp2_with ((with_reducible refine at_wl ?_); (refine wpList_ldBlk rfl 27 _ rfl (w.heap.size + 1) 27 _ hbb6'.out _ rfl Try.underlying27 rfl info_rec ?_))
          refine (encode27_any (fun k => k < w.heap.size) b Bw mw dw Bm mm dm Bn mn dn _ (g.keep (Kp.of_below hbw6 (fun k hk => hk))) (fun k hk => by omega)).mono ?_
          rintro e w7 ⟨v7, rfl, hown7, hb7⟩
          have hbw7 := hbw6.trans (hb7.mono hz6)
          have hz7 := hbw7.size
          have hz67 := hb7.size
          have hba7 := hba6.below hb7 hba6.lt
          have hbb7 := hbb6.below hb7 hbb6.lt
          rw [hPb] at hown7
          rw [hEb]
          obtain ⟨A7, c7, rfl, hc7, hm7⟩ := hown7.form
          have hown67 := hown6.below hb7
          have hlt6 := hown6.lt
          have hw52 : w.heap.size + 1 < w5.heap.size := hbb5.lt
          have hw72 : w.heap.size + 1 < w7.heap.size := hbb7.lt
          have hsa1 := SecsOf.rec_ h.ok hva'.out
          have hsb1 := SecsOf.rec_ g.ok hvb'.out
          obtain ⟨ka, hka⟩ : ∃ ka, ka = (sectors a).length := ⟨_, rfl⟩
          obtain ⟨kb, hkb⟩ : ∃ kb, kb = (sectors b).length := ⟨_, rfl⟩
          have hka0 : 0 < ka := by rw [hka, sectors_len]; have := hsa1.p0; unfold nChunks; omega
          have hkb0 : 0 < kb := by rw [hkb, sectors_len]; have := hsb1.p0; unfold nChunks; omega
          rw [← hka] at hown67 hc6 hes ⊢
          rw [← hkb] at hown7 hc7 hfs ⊢
          have hkan := hid (show ka = nChunks (payl a).length by rw [hka, sectors_len])
          have hkbn := hid (show kb = nChunks (payl b).length by rw [hkb, sectors_len])
          have hka' := hid hka
          have hkb' := hid hkb
          clear hka hkb hown6 hPa hPb hEa hEb hba1 hba2 hba3 hba4 hba5 hba6 hbb1 hbb2 hbb3 hbb4 hbb5 hbb6 hb2 hb3 hb4 hb5 hb6
          have hkane : ¬ (ka : Int) = 0 := by omega
          have hkbne : ¬ (kb : Int) = 0 := by omega
          obtain ⟨k, hk⟩ : ∃ k, k = at_ % ka := ⟨_, rfl⟩
          have hkl : k < ka := by rw [hk]; exact Nat.mod_lt _ hka0
          have hrem : (at_ : Int).tmod (ka : Int) = (k : Int) := by rw [hk, Int.tmod_eq_emod_of_nonneg (by omega)]; simp
          obtain ⟨j, hj⟩ : ∃ j, j = at_ % kb := ⟨_, rfl⟩
          have hjl : j < kb := by rw [hj]; exact Nat.mod_lt _ hkb0
          have hrem2 : (at_ : Int).tmod (kb : Int) = (j : Int) := by rw [hj, Int.tmod_eq_emod_of_nonneg (by omega)]; simp
          have hrem4 : (how : Int).tmod 4 = ((how % 4 : Nat) : Int) := by rw [Int.tmod_eq_emod_of_nonneg (by omega)]; simp
          clear hk hj
          obtain ⟨sk, hsk⟩ : ∃ sk, (sectors a)[k]? = some sk := ⟨_, List.getElem?_eq_getElem (by rw [← hka'.out]; exact hkl)⟩
          obtain ⟨sj, hsj⟩ : ∃ sj, (sectors b)[j]? = some sj := ⟨_, List.getElem?_eq_getElem (by rw [← hkb'.out]; exact hjl)⟩
          obtain ⟨bA, oA, Ak, ck, rfl, hFA1, hFA2, hcA, hlk, hmk, hrk⟩ := hown67.at_ hsk
          have hbA6 : bA < w6.heap.size := (hlt6 _ rfl).2
          obtain ⟨bB, oB, Aj, cj, rfl, hFB, hcB, hlj, hmj, hrj⟩ := hown7.rd.at_ hsj
          have hskl := hess sk (List.mem_of_getElem? hsk)
          have hsjl := hfss sj (List.mem_of_getElem? hsj)
          have hsk' := hid hsk
          have hsj' := hid hsj
          clear hsk hsj
          have hrdl := hid hown67.rd
          have hkal : k < (sectors a).length := by rw [← hka'.out]; exact hkl
          have hkan2 : k < nChunks (payl a).length := by rw [← hkan.out]; exact hkl
          have hjbn2 : j < nChunks (payl b).length := by rw [← hkbn.out]; exact hjl
          have hfr := (hown67.set_ (k := k) hkal (A' := none) (c' := 0) (s' := []) ⟨rfl, Rd.none_⟩ (Nat.le_refl _) (Nat.zero_le _)).2
          obtain ⟨q, hq⟩ : ∃ q, q = how % 4 := ⟨_, rfl⟩
          rw [← hq] at hrem4
          have hql : q < 4 := by omega
          clear hq
          have hq4 : q = 0 ∨ q = 1 ∨ q = 2 ∨ q = 3 := by omega
          rcases hq4 with rfl | rfl | rfl | rfl
          · have hset := (hown67.set_ (k := k) hkal (A' := none) (c' := 0) (s' := []) ⟨rfl, Rd.none_⟩ (Nat.le_refl _) (Nat.zero_le _)).1
            have hrdW : RdS (w7.setCell ⟨bA, oA + k, none⟩ (.slice none 0 0)) (fun q => q < w7.heap.size) (some ⟨bA, oA, none⟩) ka ((sectors a).set k []) := hset
            have hlsW : ∀ s ∈ (sectors a).set k [], s.length ≤ 1000000 := fun s hs => by
              rcases mem_set hs with h1 | h1
              · have := hess s h1; omega
              · rw [h1]; simp
            have hllW : ((sectors a).set k []).length ≤ 1000000 := by rw [List.length_set, ← hka'.out]; omega
            have hmis := miss0 (b := b) (hm := 0) (kb := nChunks (payl b).length) h.ok hva'.out hkan2
            go_wp2_with fail
            have hbwW : Below w.heap.size w (w7.setCell ⟨bA, oA + k, none⟩ (.slice none 0 0)) := hbw7.setCell (by simp only; omega) _
            have hbaW : Blk (w7.setCell ⟨bA, oA + k, none⟩ (.slice none 0 0)) w.heap.size 27 (recCells a Aw nw cw Am nm cm An nn cn) := hba7.far (by simp only; omega) _
            have hbbW : Blk (w7.setCell ⟨bA, oA + k, none⟩ (.slice none 0 0)) (w.heap.size + 1) 27 (recCells b Bw mw dw Bm mm dm Bn mn dn) := hbb7.far (by simp only; omega) _
            obtain ⟨ss, hss⟩ : ∃ ss, ss = (sectors a).set k [] := ⟨_, rfl⟩
            rw [← hss] at hrdW hlsW hllW hmis
            clear hss
            obtain ⟨wW, hwW⟩ : ∃ wW, wW = (w7.setCell ⟨bA, oA + k, none⟩ (.slice none 0 0)) := ⟨_, rfl⟩
            rw [← hwW] at hrdW hbwW hbaW hbbW ⊢
            have hwWz : w7.heap.size = wW.heap.size := by rw [hwW]; simp [World.setCell]
            clear hwW
            refine (decode_any (fun q => q < w7.heap.size) (some ⟨bA, oA, none⟩) ka c6 ss _ hrdW (by omega) hm6 hlsW hllW (fun q hq => by omega)).mono ?_
            rintro e w9 ⟨Cw, lw_, fw_, Cm, lm_, fm_, Cn, ln_, fn_, rfl, hrec, hb9⟩
            obtain ⟨d, hd⟩ : ∃ d, d = decode ss := ⟨_, rfl⟩
            unfold MissOk at hmis
            rw [← hd] at hrec hmis ⊢
            clear hd
            obtain ⟨r, kk, cc⟩ := d
            simp only at hrec hmis ⊢
            have hz9 := hb9.size
            have hZ := Blk.new w9 27 #[.int .u64 0, .int .u64 0, .slice none 0 0, .slice none 0 0, .slice none 0 0]
            have hmis' := hid hmis
            clear hmis
            go_wp2_with ((with_reducible refine at_wl ?_); (refine wpList_stBlk rfl 27 _ _ rfl w9.heap.size 27 _ (recCells r Cw lw_ fw_ Cm lm_ fm_ Cn ln_ fn_) hZ rfl rfl info_rec rfl rfl ?_; intro w10 hb10 hg10; refine mk_stop ?_))
            have hbl10 : Below w9.heap.size w9 w10 := below_of_only ((World.grownBy_alloc w9 _ _).trans hg10) (Nat.le_refl _) (Nat.le_refl _)
            have hz10 := hbl10.size
            have hfin := (hbwW.trans (hb9.mono hbwW.size)).trans (hbl10.mono (by have := hbwW.size; omega))
            obtain ⟨x0, x1, x2, x3, x4⟩ := ((hbaW.below hb9 (by omega)).below hbl10 (by omega)).rec5
            obtain ⟨y0, y1, y2, y3, y4⟩ := ((hbbW.below hb9 (by omega)).below hbl10 (by omega)).rec5
            obtain ⟨t0, t1, t2, t3, t4⟩ := hb10.rec5
            unfold Mk
            rcases hmis'.out with ⟨hk0, hc5 | hc6_⟩ | ⟨hq2, hc0, hor⟩
            · subst hk0 hc5
              go_wp2_with fail
              go_ret
              exact ⟨rfl, hfin⟩
            · subst hk0 hc6_
              go_wp2_with fail
              go_ret
              exact ⟨rfl, hfin⟩
            · exact absurd hq2 (by decide)
          · obtain ⟨sl, hsl⟩ : ∃ sl, sl = sk.length := ⟨_, rfl⟩
            obtain ⟨hh, hhh⟩ : ∃ hh, hh = sl / 2 := ⟨_, rfl⟩
            have hdiv : (sl : Int).tdiv 2 = (hh : Int) := by rw [Int.tdiv_eq_ediv_of_nonneg (by omega), hhh]; omega
            have htk := hrk.take_ (n := hh) (by rw [← hsl]; omega)
            have htl : (sk.take hh).length = hh := by rw [List.length_take, ← hsl]; omega
            have hset := (hown67.set_ (k := k) hkal (A' := Ak) (c' := ck) (s' := sk.take hh) (by rw [htl]; exact htk) (by rw [htl]; omega) hmk).1
            rw [htl] at hset
            have hmis := miss1 (b := b) (hm := 1) (kb := nChunks (payl b).length) h.ok hva'.out hkan2 hsk'.out
            rw [← hsl, ← hhh] at hmis
            rw [← hsl] at hcA hlk hskl
            have hsl' := hid hsl
            have hhh' := hid hhh
            have hhc : (hh : Int) ≤ (ck : Int) := by omega
            have hhb : hh ≤ sl := by omega
            have hdiv2 : (sl : Int) / 2 = (hh : Int) := by omega
            have hdiv3 : sl / 2 = hh := by omega
            have ewh : IntKind.i64.wrap (hh : Int) = (hh : Int) := by rw [IntKind.wrap_i64]; omega
            have hh0 : (0 : Int) ≤ (hh : Int) := by omega
            have hhc2 : hh ≤ ck := by omega
            clear hsl hhh htk htl
            have hrdW : RdS (w7.setCell ⟨bA, oA + k, none⟩ (.slice Ak hh ck)) (fun q => q < w7.heap.size) (some ⟨bA, oA, none⟩) ka ((sectors a).set k (sk.take hh)) := hset
            have hlsW : ∀ s ∈ (sectors a).set k (sk.take hh), s.length ≤ 1000000 := fun s hs => by
              rcases mem_set hs with h1 | h1
              · have := hess s h1; omega
              · rw [h1, List.length_take]; omega
            have hllW : ((sectors a).set k (sk.take hh)).length ≤ 1000000 := by rw [List.length_set, ← hka'.out]; omega
            go_wp2_with fail
            go_region_with fail
            all_goals (
              have hrdW := hrdW.keep (w' := ((w7.setCell ⟨bA, oA + k, none⟩ (.slice Ak hh ck)).drew)) (fun _ _ => rfl)
              go_wp2_with fail
              have hbwW : Below w.heap.size w ((w7.setCell ⟨bA, oA + k, none⟩ (.slice Ak hh ck)).drew) := (hbw7.setCell (by simp only; omega) _).drew
              have hbaW : Blk ((w7.setCell ⟨bA, oA + k, none⟩ (.slice Ak hh ck)).drew) w.heap.size 27 (recCells a Aw nw cw Am nm cm An nn cn) := hba7.far (by simp only; omega) _
              have hbbW : Blk ((w7.setCell ⟨bA, oA + k, none⟩ (.slice Ak hh ck)).drew) (w.heap.size + 1) 27 (recCells b Bw mw dw Bm mm dm Bn mn dn) := hbb7.far (by simp only; omega) _
              obtain ⟨ss, hss⟩ : ∃ ss, ss = (sectors a).set k (sk.take hh) := ⟨_, rfl⟩
              rw [← hss] at hrdW hlsW hllW hmis
              clear hss
              obtain ⟨wW, hwW⟩ : ∃ wW, wW = ((w7.setCell ⟨bA, oA + k, none⟩ (.slice Ak hh ck)).drew) := ⟨_, rfl⟩
              rw [← hwW] at hrdW hbwW hbaW hbbW ⊢
              have hwWz : w7.heap.size = wW.heap.size := by rw [hwW]; simp [World.setCell]
              clear hwW
              refine (decode_any (fun q => q < w7.heap.size) (some ⟨bA, oA, none⟩) ka c6 ss _ hrdW (by omega) hm6 hlsW hllW (fun q hq => by omega)).mono ?_
              rintro e w9 ⟨Cw, lw_, fw_, Cm, lm_, fm_, Cn, ln_, fn_, rfl, hrec, hb9⟩
              obtain ⟨d, hd⟩ : ∃ d, d = decode ss := ⟨_, rfl⟩
              unfold MissOk at hmis
              rw [← hd] at hrec hmis ⊢
              clear hd
              obtain ⟨r, kk, cc⟩ := d
              simp only at hrec hmis ⊢
              have hz9 := hb9.size
              have hZ := Blk.new w9 27 #[.int .u64 0, .int .u64 0, .slice none 0 0, .slice none 0 0, .slice none 0 0]
              have hmis' := hid hmis
              clear hmis
              go_wp2_with ((with_reducible refine at_wl ?_); (refine wpList_stBlk rfl 27 _ _ rfl w9.heap.size 27 _ (recCells r Cw lw_ fw_ Cm lm_ fm_ Cn ln_ fn_) hZ rfl rfl info_rec rfl rfl ?_; intro w10 hb10 hg10; refine mk_stop ?_))
              have hbl10 : Below w9.heap.size w9 w10 := below_of_only ((World.grownBy_alloc w9 _ _).trans hg10) (Nat.le_refl _) (Nat.le_refl _)
              have hz10 := hbl10.size
              have hfin := (hbwW.trans (hb9.mono hbwW.size)).trans (hbl10.mono (by have := hbwW.size; omega))
              obtain ⟨x0, x1, x2, x3, x4⟩ := ((hbaW.below hb9 (by omega)).below hbl10 (by omega)).rec5
              obtain ⟨y0, y1, y2, y3, y4⟩ := ((hbbW.below hb9 (by omega)).below hbl10 (by omega)).rec5
              obtain ⟨t0, t1, t2, t3, t4⟩ := hb10.rec5
              unfold Mk
              rcases hmis'.out with ⟨hk0, hc5 | hc6_⟩ | ⟨hq2, hc0, hor⟩
              · subst hk0 hc5
                go_wp2_with fail
                go_ret
                exact ⟨rfl, hfin⟩
              · subst hk0 hc6_
                go_wp2_with fail
                go_ret
                exact ⟨rfl, hfin⟩
              · exact absurd hq2 (by decide))
          · have hset := (hown67.set_ (k := k) hkal (A' := Aj) (c' := cj) (s' := sj) (hrj.more (fun q hq => ⟨hq.1, by rcases hq.2 with h1 | h1; exact h1.elim; omega⟩)) hlj hmj).1
            have hrdW : RdS (w7.setCell ⟨bA, oA + k, none⟩ (.slice Aj sj.length cj)) (fun q => q < w7.heap.size) (some ⟨bA, oA, none⟩) ka ((sectors a).set k sj) := hset
            have hlsW : ∀ s ∈ (sectors a).set k sj, s.length ≤ 1000000 := fun s hs => by
              rcases mem_set hs with h1 | h1
              · have := hess s h1; omega
              · rw [h1]; omega
            have hllW : ((sectors a).set k sj).length ≤ 1000000 := by rw [List.length_set, ← hka'.out]; omega
            have hmis := miss2 h.ok hva'.out g.ok hvb'.out hkan2 hjbn2 hsj'.out
            go_wp2_with fail
            have hbwW : Below w.heap.size w (w7.setCell ⟨bA, oA + k, none⟩ (.slice Aj sj.length cj)) := hbw7.setCell (by simp only; omega) _
            have hbaW : Blk (w7.setCell ⟨bA, oA + k, none⟩ (.slice Aj sj.length cj)) w.heap.size 27 (recCells a Aw nw cw Am nm cm An nn cn) := hba7.far (by simp only; omega) _
            have hbbW : Blk (w7.setCell ⟨bA, oA + k, none⟩ (.slice Aj sj.length cj)) (w.heap.size + 1) 27 (recCells b Bw mw dw Bm mm dm Bn mn dn) := hbb7.far (by simp only; omega) _
            obtain ⟨ss, hss⟩ : ∃ ss, ss = (sectors a).set k sj := ⟨_, rfl⟩
            rw [← hss] at hrdW hlsW hllW hmis
            clear hss
            obtain ⟨wW, hwW⟩ : ∃ wW, wW = (w7.setCell ⟨bA, oA + k, none⟩ (.slice Aj sj.length cj)) := ⟨_, rfl⟩
            rw [← hwW] at hrdW hbwW hbaW hbbW ⊢
            have hwWz : w7.heap.size = wW.heap.size := by rw [hwW]; simp [World.setCell]
            clear hwW
            refine (decode_any (fun q => q < w7.heap.size) (some ⟨bA, oA, none⟩) ka c6 ss _ hrdW (by omega) hm6 hlsW hllW (fun q hq => by omega)).mono ?_
            rintro e w9 ⟨Cw, lw_, fw_, Cm, lm_, fm_, Cn, ln_, fn_, rfl, hrec, hb9⟩
            obtain ⟨d, hd⟩ : ∃ d, d = decode ss := ⟨_, rfl⟩
            unfold MissOk at hmis
            rw [← hd] at hrec hmis ⊢
            clear hd
            obtain ⟨r, kk, cc⟩ := d
            simp only at hrec hmis ⊢
            have hz9 := hb9.size
            have hZ := Blk.new w9 27 #[.int .u64 0, .int .u64 0, .slice none 0 0, .slice none 0 0, .slice none 0 0]
            have hmis' := hid hmis
            clear hmis
            go_wp2_with ((with_reducible refine at_wl ?_); (refine wpList_stBlk rfl 27 _ _ rfl w9.heap.size 27 _ (recCells r Cw lw_ fw_ Cm lm_ fm_ Cn ln_ fn_) hZ rfl rfl info_rec rfl rfl ?_; intro w10 hb10 hg10; refine mk_stop ?_))
            have hbl10 : Below w9.heap.size w9 w10 := below_of_only ((World.grownBy_alloc w9 _ _).trans hg10) (Nat.le_refl _) (Nat.le_refl _)
            have hz10 := hbl10.size
            have hfin := (hbwW.trans (hb9.mono hbwW.size)).trans (hbl10.mono (by have := hbwW.size; omega))
            obtain ⟨x0, x1, x2, x3, x4⟩ := ((hbaW.below hb9 (by omega)).below hbl10 (by omega)).rec5
            obtain ⟨y0, y1, y2, y3, y4⟩ := ((hbbW.below hb9 (by omega)).below hbl10 (by omega)).rec5
            obtain ⟨t0, t1, t2, t3, t4⟩ := hb10.rec5
            unfold Mk
            rcases hmis'.out with ⟨hk0, hc5 | hc6_⟩ | ⟨hq2, hc0, hor⟩
            · subst hk0 hc5
              go_wp2_with fail
              go_ret
              exact ⟨rfl, hfin⟩
            · subst hk0 hc6_
              go_wp2_with fail
              go_ret
              exact ⟨rfl, hfin⟩
            · subst hc0
              clear hq2
              rcases hor with ⟨hg1, hs1⟩ | ⟨hne, hk0, hkb1, hrb⟩
              · rw [hg1] at x0
                rw [hs1] at x1
                clear hmis'
                go_wp2_with fail
                go_ret
                exact ⟨rfl, hfin⟩
              · have hkb1' : kb = 1 := by rw [hkbn.out]; exact hkb1
                clear hkb1 hmis'
                have hsame := fun w' : World => same_any (fun q => q < w10.heap.size) (fun q => q < w.heap.size) r Cw lw_ fw_ Cm lm_ fm_ Cn ln_ fn_ b Bw mw dw Bm mm dm Bn mn dn w10 ((hrec.keep (Kp.of_below hbl10 (fun q hq => hq.1))).more' (fun q hq => by have := hq.1; omega)) (g.keep (Kp.of_below hfin (fun q hq => hq))) (fun q hq => hq) (fun q hq => by have := hfin.size; omega)
                have hsame' := hid (hsame w10)
                clear hsame hrec
                subst hrb hkb1' hk0
                by_cases hgg : a.gen = r.gen
                · have hss : ¬ a.seq = r.seq := fun e => hne ⟨hgg, e⟩
                  rw [hgg] at x0
                  clear hne hgg
                  go_wp2_with fail
                  refine hsame'.out.mono ?_
                  rintro e w11 ⟨rfl, hb11⟩
                  rw [decide_eq_true (rfl : r = r)]
                  go_wp2_with fail
                  go_ret
                  exact ⟨rfl, hfin.trans (hb11.mono hfin.size)⟩
                · clear hne
                  go_wp2_with fail
                  refine hsame'.out.mono ?_
                  rintro e w11 ⟨rfl, hb11⟩
                  rw [decide_eq_true (rfl : r = r)]
                  go_wp2_with fail
                  go_ret
                  exact ⟨rfl, hfin.trans (hb11.mono hfin.size)⟩
          · have hrdW : RdS w7 (fun q => q < w7.heap.size) (some ⟨bA, oA, none⟩) k ((sectors a).take k) := (hrdl.out.take_ (n := k) (by omega)).more (fun q hq => hq.1)
            have hlsW : ∀ s ∈ (sectors a).take k, s.length ≤ 1000000 := fun s hs => by have := hess s (List.mem_of_mem_take hs); omega
            have hllW : ((sectors a).take k).length ≤ 1000000 := by rw [List.length_take, ← hka'.out]; omega
            have hmis := miss3 (b := b) (hm := 3) (kb := nChunks (payl b).length) h.ok hva'.out hkan2
            have hkc : (k : Int) ≤ (c6 : Int) := by omega
            have hkc2 : k ≤ c6 := by omega
            go_wp2_with fail
            have hbwW : Below w.heap.size w w7 := hbw7
            have hbaW : Blk w7 w.heap.size 27 (recCells a Aw nw cw Am nm cm An nn cn) := hba7
            have hbbW : Blk w7 (w.heap.size + 1) 27 (recCells b Bw mw dw Bm mm dm Bn mn dn) := hbb7
            obtain ⟨ss, hss⟩ : ∃ ss, ss = (sectors a).take k := ⟨_, rfl⟩
            rw [← hss] at hrdW hlsW hllW hmis
            clear hss
            obtain ⟨wW, hwW⟩ : ∃ wW, wW = w7 := ⟨_, rfl⟩
            rw [← hwW] at hrdW hbwW hbaW hbbW ⊢
            have hwWz : w7.heap.size = wW.heap.size := by rw [hwW]
            clear hwW
            refine (decode_any (fun q => q < wW.heap.size) (some ⟨bA, oA, none⟩) k c6 ss _ hrdW (by omega) hm6 hlsW hllW (fun q hq => by omega)).mono ?_
            rintro e w9 ⟨Cw, lw_, fw_, Cm, lm_, fm_, Cn, ln_, fn_, rfl, hrec, hb9⟩
            obtain ⟨d, hd⟩ : ∃ d, d = decode ss := ⟨_, rfl⟩
            unfold MissOk at hmis
            rw [← hd] at hrec hmis ⊢
            clear hd
            obtain ⟨r, kk, cc⟩ := d
            simp only at hrec hmis ⊢
            have hz9 := hb9.size
            have hZ := Blk.new w9 27 #[.int .u64 0, .int .u64 0, .slice none 0 0, .slice none 0 0, .slice none 0 0]
            have hmis' := hid hmis
            clear hmis
            go_wp2_with ((with_reducible refine at_wl ?_); (refine wpList_stBlk rfl 27 _ _ rfl w9.heap.size 27 _ (recCells r Cw lw_ fw_ Cm lm_ fm_ Cn ln_ fn_) hZ rfl rfl info_rec rfl rfl ?_; intro w10 hb10 hg10; refine mk_stop ?_))
            have hbl10 : Below w9.heap.size w9 w10 := below_of_only ((World.grownBy_alloc w9 _ _).trans hg10) (Nat.le_refl _) (Nat.le_refl _)
            have hz10 := hbl10.size
            have hfin := (hbwW.trans (hb9.mono hbwW.size)).trans (hbl10.mono (by have := hbwW.size; omega))
            obtain ⟨x0, x1, x2, x3, x4⟩ := ((hbaW.below hb9 (by omega)).below hbl10 (by omega)).rec5
            obtain ⟨y0, y1, y2, y3, y4⟩ := ((hbbW.below hb9 (by omega)).below hbl10 (by omega)).rec5
            obtain ⟨t0, t1, t2, t3, t4⟩ := hb10.rec5
            unfold Mk
            rcases hmis'.out with ⟨hk0, hc5 | hc6_⟩ | ⟨hq2, hc0, hor⟩
            · subst hk0 hc5
              go_wp2_with fail
              go_ret
              exact ⟨rfl, hfin⟩
            · subst hk0 hc6_
              go_wp2_with fail
              go_ret
              exact ⟨rfl, hfin⟩
            · exact absurd hq2 (by decide)

end Go.Proofs.Ytbcmpfdhpefdbaa
