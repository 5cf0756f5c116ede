/- The walk of the law RecordPayload: it returns true. -/
import Derived.Test.YtbcmpfdhpefdbaaLDec
import Derived.Test.YtbcmpfdhpefdbaaPaylP
set_option linter.unusedVariables false
set_option linter.unusedSimpArgs false
namespace Go.Proofs.Ytbcmpfdhpefdbaa
open Go.RowKit
attribute [local irreducible] Go.Calls

def secPTo (gen seq : Nat) (p : List UInt8) (k : Nat) : List (List UInt8) := (List.range k).map (fun i => sectorB gen seq i (nChunks p.length) (chunkAt p i))
theorem secPTo_succ (gen seq : Nat) (p : List UInt8) (k : Nat) : secPTo gen seq p (k + 1) = secPTo gen seq p k ++ [sectorB gen seq k (nChunks p.length) (chunkAt p k)] := by simp [secPTo, List.range_succ]
theorem secPTo_len (gen seq : Nat) (p : List UInt8) (k : Nat) : (secPTo gen seq p k).length = k := by simp [secPTo]
theorem secPTo_all (gen seq : Nat) (p : List UInt8) : secPTo gen seq p (nChunks p.length) = secsP gen seq p := rfl
theorem secP_len {gen seq : Nat} {p : List UInt8} (hg : gen < 18446744073709551616) (hs : seq < 18446744073709551616) (hp : p.length ≤ 1000) : ∀ s ∈ secsP gen seq p, s.length ≤ 100 := by
  intro s hs'
  rw [secsP, List.mem_map] at hs'
  obtain ⟨i, hi, rfl⟩ := hs'
  have hi := List.mem_range.1 hi
  have h1 := enc_len10 hg
  have h2 := enc_len10 hs
  have h3 := enc_len10 (n := i) (by unfold nChunks at hi; omega)
  have h4 := enc_len10 (n := nChunks p.length) (by unfold nChunks; omega)
  have h5 := (chunkAt_bd hi).2
  have h6 := enc_len10 (n := (chunkAt p i).length) (by omega)
  simp only [sectorB, sectorH, sealB_len, List.length_append, List.length_cons]
  omega

set_option maxRecDepth 100000 in
set_option maxHeartbeats 8000000 in
theorem lawPayload_any (gen seq : Nat) (A : Option Addr) (n c : Nat) (p : List UInt8) (w : World) (hg : gen < 18446744073709551616) (hs : seq < 18446744073709551616) (h : RdB w (fun k => k < w.heap.size) A n p) (hnc : n ≤ c) (hcm : c ≤ maxLen) :
    Calls Try.prog 7 #[.int .u64 (gen : Int), .int .u64 (seq : Int), .slice A n c] w (LawPost w) := by
  have hn := hid h.1
  by_cases hl : 1000 < n
  · have hl2 : (1000 : Int) < (n : Int) := by omega
    go_enter Try.func7, Try.ntmps7
    go_wp2_with fail
    refine (awake27_any _).mono ?_
    rintro e w1 ⟨rfl, hb1⟩
    go_wp2_with fail
    go_ret
    exact ⟨rfl, hb1⟩
  · have hl2 : ¬ (1000 : Int) < (n : Int) := by omega
    have hl3 : (n : Int) ≤ 1000 := by omega
    by_cases hz : n = 0
    · have hz2 : (n : Int) = 0 := by omega
      go_enter Try.func7, Try.ntmps7
      go_wp2_with fail
      refine (awake27_any _).mono ?_
      rintro e w1 ⟨rfl, hb1⟩
      go_wp2_with fail
      go_ret
      exact ⟨rfl, hb1⟩
    · have hz2 : ¬ (n : Int) = 0 := by omega
      obtain ⟨m, hm⟩ : ∃ m, m = nChunks p.length := ⟨_, rfl⟩
      have hmb : 28 * m ≤ n + 27 ∧ n ≤ 28 * m := by rw [hm, ← hn.out]; unfold nChunks; omega
      have hquo : ((n : Int) + 27).tdiv 28 = (m : Int) := by
        rw [Int.tdiv_eq_ediv_of_nonneg (by omega), hm, ← hn.out]; unfold nChunks; omega
      have hm' := hid hm
      clear hm
      have hm36 : m ≤ 36 := by omega
      have hmb' := hid hmb
      clear hmb
      have hz3 : ((n : Int) == 0) = false := beq_eq_false_iff_ne.2 hz2
      have hl4 : (decide ((1000 : Int) < (n : Int))) = false := decide_eq_false hl2
      obtain ⟨bb, oo, rfl, hFb, _⟩ := h.2.2 (by omega)
      go_enter Try.func7, Try.ntmps7
      go_wp2_with fail
      refine (awake27_any _).mono ?_
      rintro e w1 ⟨rfl, hb1⟩
      have h1 := h.keep (Kp.of_below hb1 (fun k hk => hk))
      have hs1 := hb1.size
      go_wp2_with fail
      go_loopw [8, 31] (fun v i wr => ∃ (j : Nat), i = .int .i64 (j : Int) ∧ j ≤ m ∧ OwnS w1.heap.size (fun _ => False) wr v (secPTo gen seq p j) ∧ Below w1.heap.size w1 wr) (fun _ i _ => m - (intOf i).toNat)
      case atStart => exact ⟨0, rfl, by omega, OwnS.nil_, Below.refl _ _⟩
      case round =>
        obtain ⟨j, rfl, hj, hown, hbel⟩ := hrel
        have hzr := hbel.size
        have h2 := h1.keep (Kp.of_below hbel (fun k hk => by omega))
        by_cases hjm : j < m
        · obtain ⟨q, hq⟩ : ∃ q, q = 28 * j := ⟨_, rfl⟩
          obtain ⟨ne, hne⟩ : ∃ ne, ne = min (28 * (j + 1)) n := ⟨_, rfl⟩
          have hmb := hmb'.out
          have hq1 : (28 : Int) * (j : Int) = (q : Int) := by omega
          have hb0 : (q : Int) ≤ (ne : Int) := by omega
          have hb1' : (ne : Int) ≤ (n : Int) := by omega
          have hb2 : (ne : Int) ≤ (c : Int) := by omega
          have ewq : IntKind.i64.wrap (q : Int) = (q : Int) := by rw [IntKind.wrap_i64]; omega
          have ewq2 : IntKind.i64.wrap ((q : Int) + 28) = (q : Int) + 28 := by rw [IntKind.wrap_i64]; omega
          have hneA : n < q + 28 → ne = n := fun e => by omega
          have hneB : ¬ n < q + 28 → ne = q + 28 := fun e => by omega
          have hneA' := hid hneA
          have hneB' := hid hneB
          clear hneA hneB
          have hb3 : q ≤ ne := by omega
          have hb4 : ne ≤ c := by omega
          have hcne : ¬ c = q := by omega
          have hmb2 := hid hmb
          clear hmb
          have hcut := h2.cut (n := q) (c := c) (by omega) hnc
          unfold cutA at hcut
          rw [if_neg hcne] at hcut
          simp only [Option.map_some, addr_add, Nat.mul_one] at hcut
          have hcut2 := hcut.take_ (n := ne - q) (by omega)
          rw [hq, chunkAt_take p j ne (by rw [hne, ← hn.out]), ← hq] at hcut2
          have hcl := chunkAt_len p j
          have hnx := hid (secPTo_succ gen seq p j)
          clear hcut
          obtain ⟨A6, c6, rfl, hc6, hm6⟩ := hown.form
          rw [secPTo_len] at hown hc6 ⊢
          have hownlt := hown.lt
          have hq2 := hid hq
          have hne3 := hid hne
          clear hq hne
          by_cases hend : n < q + 28
          · have hneq := hneA'.out hend
            subst hneq
            have hend2 : (ne : Int) < (q : Int) + 28 := by omega
            go_wp2_with fail
            refine (sector27_any _ gen seq j m _ (ne - q) (c - q) _ _ hcut2 (by omega) (by rw [hcl]; omega) (fun k hk => by omega) hg hs (by omega) (by omega)).mono ?_
            intro e w4 hret4
            obtain ⟨A4, c4, d4, rfl, hown4, hbel4, hc4, hm4, hd4⟩ := hret4.opened
            have hz4 := hbel4.size
            go_wp2_with (at_builtin; refine mk_stop ?_)
            refine wpList_apS rfl _ _ rfl w1.heap.size (fun _ => False) (.slice A6 j c6) (secPTo gen seq p j) rfl (hown.below hbel4) A4 _ c4 1 d4 rfl (hown4.rd.more (fun k hk => ⟨hk.1, .inr (by have := hk.2; omega), fun e => by have := (hownlt _ e).2; have := hk.2; omega⟩)) hc4 hm4 (by rw [secPTo_len]; have := hmb2.out; omega) (by omega) ?_
            intro v7 w7 hown7 hg7 hat7
            have hd4' : d4 = sectorB gen seq j (nChunks p.length) (chunkAt p j) := by rw [hd4.out, ← hm'.out]
            rw [hd4', ← hnx.out] at hown7
            go_wp2
            go_roundw
            case rel => exact ⟨j + 1, by go_num, by omega, hown7, (hbel.trans (hbel4.mono hzr)).grown hg7 (by omega) (fun k hk => (hownlt k hk).1)⟩
            case measure => simp [intOf]; omega
          · have hneq := hneB'.out hend
            have hq28 : (q : Int) + 28 = (ne : Int) := by omega
            have hq28n : q + 28 = ne := by omega
            have hend2 : ¬ (n : Int) < (ne : Int) := by omega
            have hend3 : ¬ (n : Int) < (q : Int) + 28 := by omega
            have hend4 : (q : Int) + 28 ≤ (n : Int) := by omega
            have ewne : IntKind.i64.wrap (ne : Int) = (ne : Int) := by rw [IntKind.wrap_i64]; omega
            clear hneq
            go_wp2_with fail
            refine (sector27_any _ gen seq j m _ (ne - q) (c - q) _ _ hcut2 (by omega) (by rw [hcl]; omega) (fun k hk => by omega) hg hs (by omega) (by omega)).mono ?_
            intro e w4 hret4
            obtain ⟨A4, c4, d4, rfl, hown4, hbel4, hc4, hm4, hd4⟩ := hret4.opened
            have hz4 := hbel4.size
            go_wp2_with (at_builtin; refine mk_stop ?_)
            refine wpList_apS rfl _ _ rfl w1.heap.size (fun _ => False) (.slice A6 j c6) (secPTo gen seq p j) rfl (hown.below hbel4) A4 _ c4 1 d4 rfl (hown4.rd.more (fun k hk => ⟨hk.1, .inr (by have := hk.2; omega), fun e => by have := (hownlt _ e).2; have := hk.2; omega⟩)) hc4 hm4 (by rw [secPTo_len]; have := hmb2.out; omega) (by omega) ?_
            intro v7 w7 hown7 hg7 hat7
            have hd4' : d4 = sectorB gen seq j (nChunks p.length) (chunkAt p j) := by rw [hd4.out, ← hm'.out]
            rw [hd4', ← hnx.out] at hown7
            go_wp2
            go_roundw
            case rel => exact ⟨j + 1, by go_num, by omega, hown7, (hbel.trans (hbel4.mono hzr)).grown hg7 (by omega) (fun k hk => (hownlt k hk).1)⟩
            case measure => simp [intOf]; omega
        · have hjm' : j = m := by omega
          subst hjm'
          have hmb := hmb'.out
          have hall : secPTo gen seq p j = secsP gen seq p := by rw [hm'.out]; rfl
          rw [hall] at hown
          have hpl : p.length ≤ 1000 := by rw [← hn.out]; omega
          have hp1 : 1 ≤ p.length := by rw [← hn.out]; omega
          have hlens := secP_len hg hs hpl
          have hls : (secsP gen seq p).length = j := by rw [← hall, secPTo_len]
          have hdec := hid (fun h0 => decode_payl hg hs hp1 hpl h0)
          obtain ⟨ss, hss⟩ : ∃ ss, ss = secsP gen seq p := ⟨_, rfl⟩
          rw [← hss] at hown hlens hls hdec
          clear hss hall
          obtain ⟨A6, c6, rfl, hc6, hm6⟩ := hown.form
          rw [hls] at hown hc6 ⊢
          have hrdl := hown.rd
          have hls' := hid hls
          clear hls hmb
          go_wp2_with fail
          refine (decode_any _ A6 j c6 ss _ hrdl hc6 hm6 (fun s hs => by have := hlens s hs; omega) (by rw [hls'.out]; have := hmb'.out; omega) (fun k hk => hk.1)).mono ?_
          rintro e w2 ⟨Aw, nw, cw, Am, nm, cm, An, nn, cn, rfl, hrec, hb2⟩
          obtain ⟨d, hd⟩ : ∃ d, d = decode ss := ⟨_, rfl⟩
          rw [← hd] at hrec hdec ⊢
          have hd' := hid hd
          clear hd
          obtain ⟨r, kk, cc⟩ := d
          simp only at hrec ⊢
          have hs2 := hb2.size
          have hZ := Blk.new w2 27 #[.int .u64 0, .int .u64 0, .slice none 0 0, .slice none 0 0, .slice none 0 0]
          go_wp2_with ((with_reducible refine at_wl ?_); (refine wpList_stBlk rfl 27 _ _ rfl w2.heap.size 27 _ (recCells r Aw nw cw Am nm cm An nn cn) hZ rfl rfl info_rec rfl rfl ?_; intro w3 hb3 hg3; refine mk_stop ?_))
          have hbl3 : Below w2.heap.size w2 w3 := below_of_only ((World.grownBy_alloc w2 _ _).trans hg3) (Nat.le_refl _) (Nat.le_refl _)
          have hs3 := hbl3.size
          have hz3 := hb3.lt
          have hb3' := hid hb3
          have hrdl3 := hrdl.keep (Kp.of_below (hb2.trans (hbl3.mono hs2)) (fun k hk => hk.1))
          unfold Mk
          go_wp2_with fail
          refine (decode27_any _ A6 j c6 ss _ hrdl3 hc6 hm6 (fun s hs => by have := hlens s hs; omega) (by rw [hls'.out]; have := hmb'.out; omega) (fun k hk => by have := hk.1; omega)).mono ?_
          rintro e w4 ⟨Bw, mw, dw, Bm, mm, dm, Bn, mn, dn, rfl, hrec2, hb4⟩
          rw [← hd'.out] at hrec2 ⊢
          simp only at hrec2 ⊢
          have hs4 := hb4.size
          have hZ4 := Blk.new w4 27 #[.int .u64 0, .int .u64 0, .slice none 0 0, .slice none 0 0, .slice none 0 0]
          go_wp2_with ((with_reducible refine at_wl ?_); (refine wpList_stBlk rfl 27 _ _ rfl w4.heap.size 27 _ (recCells r Bw mw dw Bm mm dm Bn mn dn) hZ4 rfl rfl info_rec rfl rfl ?_; intro w5 hb5 hg5; refine mk_stop ?_))
          have hbl5 : Below w4.heap.size w4 w5 := below_of_only ((World.grownBy_alloc w4 _ _).trans hg5) (Nat.le_refl _) (Nat.le_refl _)
          have hs5 := hbl5.size
          have hz5 := hb5.lt
          have hfin : Below w.heap.size w w5 := (((((hb1.trans (hbel.mono hs1)).trans (hb2.mono (by omega))).trans (hbl3.mono (by omega))).trans (hb4.mono (by omega))).trans (hbl5.mono (by omega)))
          have hr1d := (hrec.keep (Kp.of_below ((hbl3.trans (hb4.mono hs3)).trans (hbl5.mono (by omega))) (fun k hk => hk.1))).keep (w' := w5.drew) (fun _ _ => rfl)
          have hr2d := (hrec2.keep (Kp.of_below hbl5 (fun k hk => hk.1))).keep (w' := w5.drew) (fun _ _ => rfl)
          have h5d := (h.keep (Kp.of_below hfin (fun k hk => hk))).keep (w' := w5.drew) (fun _ _ => rfl)
          have hx5 : Blk w5.drew w2.heap.size 27 #[.int .u64 (r.gen : Int), .int .u64 (r.seq : Int), .slice Aw nw cw, .slice Am nm cm, .slice An nn cn] ∧ Blk w5.drew w4.heap.size 27 #[.int .u64 (r.gen : Int), .int .u64 (r.seq : Int), .slice Bw mw dw, .slice Bm mm dm, .slice Bn mn dn] ∧ (convert 25 9 (.slice (some ⟨bb, oo, none⟩) n c)).run Try.prog w5.drew = .ok (.string (strB p)) w5.drew := ⟨((hb3'.out.below hb4 hz3).below hbl5 (by omega)).drew, hb5.drew, h5d.conv c⟩
          have hbe := beq_strB p
          unfold Mk
          by_cases hcc : cc = 0
          · subst hcc
            obtain ⟨hvld, hpay⟩ := hdec.out rfl
            have hvld' := hid hvld
            have hpay' := hid hpay
            clear hvld hpay hdec
            go_wp2_with fail
            have hw25 : w2.heap.size < w5.heap.size := by omega
            have hw45 : w4.heap.size < w5.heap.size := by omega
            have hw05 : w.heap.size ≤ w5.heap.size := hfin.size
            clear h1 hs1 hmb' hquo hz3 hl4 hl2 hl3 hz2 hz hm36 hm' hbel hj hjm hpl hp1 hlens hown hc6 hm6 hrdl hls' hb1 hb2 hs2 hZ hg3 hbl3 hs3 hb3' hrdl3 hb4 hs4 hZ4 hg5 hbl5 hs5 hrec hrec2 hd' hg hs hnc hcm hl
            obtain ⟨q0, q1, q2, q3, q4⟩ := Blk.rec5 (w := w5) (r := r) hx5.1
            obtain ⟨y0, y1, y2, y3, y4⟩ := Blk.rec5 (w := w5) (r := r) hx5.2.1
            have hcv5 := hx5.2.2
            first | (go_region_with (first | (go_at_call 29; refine (same_any _ _ r Aw nw cw Am nm cm An nn cn r Bw mw dw Bm mm dm Bn mn dn _ hr1d hr2d (fun k hk => by have := hk.1; show k < w5.heap.size; omega) (fun k hk => by have := hk.1; show k < w5.heap.size; omega)).mono ?_; rintro e w6 ⟨rfl, hb6⟩; (rw [decide_eq_true (rfl : r = r)]); have hx6 : Blk w6 w2.heap.size 27 #[.int .u64 (r.gen : Int), .int .u64 (r.seq : Int), .slice Aw nw cw, .slice Am nm cm, .slice An nn cn] ∧ Blk w6 w4.heap.size 27 #[.int .u64 (r.gen : Int), .int .u64 (r.seq : Int), .slice Bw mw dw, .slice Bm mm dm, .slice Bn mn dn] ∧ (convert 25 9 (.slice (some ⟨bb, oo, none⟩) n c)).run Try.prog w6 = .ok (.string (strB p)) w6 := ⟨hx5.1.below hb6 (by show _ < w5.heap.size; omega), hx5.2.1.below hb6 (by show _ < w5.heap.size; omega), (h5d.keep (Kp.of_below hb6 (fun k hk => by show k < w5.heap.size; omega))).conv c⟩; have hs6 : w5.heap.size ≤ w6.heap.size := hb6.size; obtain ⟨u0, u1, u2, u3, u4⟩ := Blk.rec5 (r := r) hx6.1; have hcv6 := hx6.2.2) | (go_at_call 31; refine (payload27_any _ r Aw nw cw Am nm cm An nn cn _ (hr1d.keep (Kp.of_below hb6 (fun k hk => by have := hk.1; show k < w5.heap.size; omega))) (fun k hk => by have := hk.1; omega) hvld'.out).mono ?_; intro e w7 hret7; (rw [hpay'.out] at hret7); obtain ⟨A7, c7, d7, rfl, hown7, hb7, hc7, hm7, hd7⟩ := hret7.opened; have hx7 : Blk w7 w2.heap.size 27 #[.int .u64 (r.gen : Int), .int .u64 (r.seq : Int), .slice Aw nw cw, .slice Am nm cm, .slice An nn cn] ∧ Blk w7 w4.heap.size 27 #[.int .u64 (r.gen : Int), .int .u64 (r.seq : Int), .slice Bw mw dw, .slice Bm mm dm, .slice Bn mn dn] ∧ (convert 25 9 (.slice (some ⟨bb, oo, none⟩) n c)).run Try.prog w7 = .ok (.string (strB p)) w7 := ⟨hx6.1.below hb7 (by omega), hx6.2.1.below hb7 (by omega), ((h5d.keep (Kp.of_below hb6 (fun k hk => by show k < w5.heap.size; omega))).keep (Kp.of_below hb7 (fun k hk => by omega))).conv c⟩; have hcv7 := hown7.rd.conv c7; have hcv7b := hx7.2.2; (rw [hd7.out] at hcv7); (have hd7' := hd7.out; subst hd7')))) | fail
            all_goals go_wp2
            all_goals go_ret
            all_goals exact ⟨by first | rfl | simp, ((hfin.drew.trans (hb6.mono (show w.heap.size ≤ w5.heap.size from hfin.size))).trans (hb7.mono (by have := hfin.size; omega)))⟩
          · clear hdec
            go_wp2_with fail
            have hw25 : w2.heap.size < w5.heap.size := by omega
            have hw45 : w4.heap.size < w5.heap.size := by omega
            have hw05 : w.heap.size ≤ w5.heap.size := hfin.size
            clear h1 hs1 hmb' hquo hz3 hl4 hl2 hl3 hz2 hz hm36 hm' hbel hj hjm hpl hp1 hlens hown hc6 hm6 hrdl hls' hb1 hb2 hs2 hZ hg3 hbl3 hs3 hb3' hrdl3 hb4 hs4 hZ4 hg5 hbl5 hs5 hrec hrec2 hd' hg hs hnc hcm hl
            obtain ⟨q0, q1, q2, q3, q4⟩ := Blk.rec5 (w := w5) (r := r) hx5.1
            obtain ⟨y0, y1, y2, y3, y4⟩ := Blk.rec5 (w := w5) (r := r) hx5.2.1
            have hcv5 := hx5.2.2
            first | (go_region_with (first | (go_at_call 29; refine (same_any _ _ r Aw nw cw Am nm cm An nn cn r Bw mw dw Bm mm dm Bn mn dn _ hr1d hr2d (fun k hk => by have := hk.1; show k < w5.heap.size; omega) (fun k hk => by have := hk.1; show k < w5.heap.size; omega)).mono ?_; rintro e w6 ⟨rfl, hb6⟩; (rw [decide_eq_true (rfl : r = r)]); have hx6 : Blk w6 w2.heap.size 27 #[.int .u64 (r.gen : Int), .int .u64 (r.seq : Int), .slice Aw nw cw, .slice Am nm cm, .slice An nn cn] ∧ Blk w6 w4.heap.size 27 #[.int .u64 (r.gen : Int), .int .u64 (r.seq : Int), .slice Bw mw dw, .slice Bm mm dm, .slice Bn mn dn] ∧ (convert 25 9 (.slice (some ⟨bb, oo, none⟩) n c)).run Try.prog w6 = .ok (.string (strB p)) w6 := ⟨hx5.1.below hb6 (by show _ < w5.heap.size; omega), hx5.2.1.below hb6 (by show _ < w5.heap.size; omega), (h5d.keep (Kp.of_below hb6 (fun k hk => by show k < w5.heap.size; omega))).conv c⟩; have hs6 : w5.heap.size ≤ w6.heap.size := hb6.size) | fail)) | fail
            all_goals go_wp2
            all_goals go_ret
            all_goals exact ⟨by first | rfl | simp, hfin.drew.trans (hb6.mono (show w.heap.size ≤ w5.heap.size from hfin.size))⟩

end Go.Proofs.Ytbcmpfdhpefdbaa
